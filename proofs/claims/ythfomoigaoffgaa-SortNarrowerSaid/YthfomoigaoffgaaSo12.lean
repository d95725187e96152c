/- Walks of sort: Meet. -/
import Derived.Test.YthfomoigaoffgaaSo11
import Derived.Deep.RegionWith
import Derived.Deep.CutRange
namespace Go.Proofs.Ythfomoigaoffgaa.So
open Go Go.RowKit Go.Shelf Go.Sort Go.Proofs.Ythfomoigaoffgaa.K Go.Proofs.Ythfomoigaoffgaa.G Go.Proofs.Ythfomoigaoffgaa.Ix Go.Proofs.Ythfomoigaoffgaa.O
set_option linter.unusedSimpArgs false
set_option linter.unusedVariables false

theorem least_any (S : Nat → Prop) (r : Raw) (T : Thy) (A : Option Addr) (n c base : Nat) (s : List ByteArray) (w : World) (hT : ThyR S w r T) (hS : ∀ k, S k → k < w.heap.size) (hm : Mine str base (fun _ => False) w (.slice A n c) s) (hl : s.length ≤ 1000000) (hss : ∀ x ∈ s, x.size ≤ maxLen) (hfew : (allSups T.cls).length ≤ 100000000) :
    Calls Try.prog 34 #[thyV r T, .slice A n c] w fun e w' => ∃ A' n' c', e = .returned (.slice A' n' c') ∧ n' = (leastB T.cls s).length ∧ Mine str w.heap.size (fun _ => False) w' (.slice A' n' c') (leastB T.cls s) ∧ Below w.heap.size w w' := by
  obtain ⟨rfl, hnc, hC⟩ := hm.read
  refine (least_calls S _ r T A c s w hT hS hC hl hss hfew).mono ?_
  rintro e w' ⟨v, rfl, hm', hb⟩
  obtain ⟨A', c', rfl, _⟩ := hm'.form
  exact ⟨A', _, c', rfl, rfl, hm', hb⟩
theorem below_drew {B : Nat} {w w' : World} (h : Below B w w') : Below B w w'.drew := ⟨h.os, h.tape, h.output, h.size, h.block⟩
theorem concat_any (Sa Sb : Nat → Prop) (A1 A2 : Option Addr) (c1 c2 : Nat) (a b ab : List ByteArray) (w : World) (ha : C str Sa w A1 a) (hb : C str Sb w A2 b) (la : a.length ≤ 100000) (lb : b.length ≤ 100000) (hab : a ++ b = ab) :
    Calls Try.prog 37 #[.slice (some ⟨w.heap.size, 0, none⟩) 2 2] (w.alloc (.cells #[.slice A1 a.length c1, .slice A2 b.length c2] 27)).drew fun e w' => ∃ A n c, e = .returned (.slice A n c) ∧ Mine str w.heap.size (fun _ => False) w' (.slice A n c) ab ∧ Below w.heap.size w w' := by
  subst hab
  have hbx : Below w.heap.size w (w.alloc (.cells #[.slice A1 a.length c1, .slice A2 b.length c2] 27)).drew := below_drew ((Below.refl _ _).alloc (Nat.le_refl _) _)
  have e0 : (w.alloc (.cells #[.slice A1 a.length c1, .slice A2 b.length c2] 27)).cell? ⟨w.heap.size, 0, none⟩ = some (.slice A1 a.length c1) := cells_at _ _ _ _ 0 rfl
  have e1 : (w.alloc (.cells #[.slice A1 a.length c1, .slice A2 b.length c2] 27)).cell? ⟨w.heap.size, 1, none⟩ = some (.slice A2 b.length c2) := cells_at _ _ _ _ 1 rfl
  refine (concat_calls Sa Sb w.heap.size A1 A2 c1 c2 a b (w.alloc (.cells #[.slice A1 a.length c1, .slice A2 b.length c2] 27)).drew e0 e1 (ha.below hbx) (hb.below hbx) la lb).mono ?_
  rintro e w' ⟨A, n, c, rfl, hm, hb'⟩
  exact ⟨A, n, c, rfl, hm.lower hbx.size, hbx.trans (hb'.mono hbx.size)⟩

set_option maxRecDepth 100000 in
set_option maxHeartbeats 4000000 in
theorem meet_calls (S Sa Sb : Nat → Prop) (r : Raw) (T : Thy) (Aa Ab : Option Addr) (ca cb : Nat) (a b : List ByteArray) (w : World) (hT : ThyR S w r T) (ha : C str Sa w Aa a) (hca : a.length ≤ ca) (hb : C str Sb w Ab b) (hcb : b.length ≤ cb)
    (la : a.length ≤ 100000) (lb : b.length ≤ 100000) (hal : ∀ x ∈ a, x.size ≤ maxLen) (hbl : ∀ x ∈ b, x.size ≤ maxLen) (hfew : (allSups T.cls).length ≤ 100000000) :
    Calls Try.prog 13 #[thyV r T, .slice Aa a.length ca, .slice Ab b.length cb] w fun e w' => ∃ v, e = .returned (.tuple #[v, .int .i64 (meetB T.cls a b).2]) ∧ Mine str w.heap.size (fun _ => False) w' v (meetB T.cls a b).1 ∧ Below w.heap.size w w' := by
  obtain ⟨W1, hW1⟩ : ∃ W1, (w.alloc (.cells (thyC r T) 29)).alloc (.cells #[.slice Aa a.length ca, .slice Ab b.length cb] 27) = W1 := ⟨_, rfl⟩
  have hb1 : Below w.heap.size w W1 := by rw [← hW1]; exact ((Below.refl _ _).alloc (Nat.le_refl _) _).alloc (by simp) _
  have hs1 : W1.heap.size = w.heap.size + 2 := by rw [← hW1]; simp
  have hr0 : W1.cell? ⟨w.heap.size + 1, 0, none⟩ = some (.slice Aa a.length ca) := by rw [← hW1]; exact cells_at _ _ _ _ 0 (by simp)
  have hr1 : W1.cell? ⟨w.heap.size + 1, 1, none⟩ = some (.slice Ab b.length cb) := by rw [← hW1]; exact cells_at _ _ _ _ 1 (by simp)
  have hth : W1.heap[w.heap.size]? = some (.cells (thyC r T) 29 (0, 0)) := by rw [← hW1]; exact (Below.heap_alloc _ _ _ (by simp)).trans (World.alloc_heap_new w _)
  have hag := Try.isAgg29
  have hsz := Try.sizeOf29
  generalize hN : meetB T.cls a b = N
  generalize hab : a ++ b = ab
  have hsab : ∀ x ∈ ab, x.size ≤ maxLen := by
    rw [← hab]
    intro x hx
    rcases List.mem_append.1 hx with h | h
    · exact hal x h
    · exact hbl x h
  have hlab : ab.length ≤ 1000000 := by rw [← hab]; simp; omega
  have HNA := Lib.hid (fun W (hb : Below w.heap.size w W) => normal_calls S Sa r T Aa ca a W (hT.below hb) (ha.below hb) hca (by omega) hal hfew)
  have HNB := Lib.hid (fun W (hb' : Below w.heap.size w W) => normal_calls S Sb r T Ab cb b W (hT.below hb') (hb.below hb') hcb (by omega) hbl hfew)
  have HCC := Lib.hid (fun W (hb' : Below w.heap.size w W) => concat_any Sa Sb Aa Ab ca cb a b ab W (ha.below hb') (hb.below hb') la lb hab)
  have HLL := Lib.hid (fun A n c base W (hb' : Below w.heap.size w W) hm => least_any _ r T A n c base ab W (hT.bound.below hb') (fun k hk => Nat.lt_of_lt_of_le hk.2 hb'.size) hm hlab hsab hfew)
  have HN : Hid (N = if (normB T.cls a).2 ≠ 0 then ([], (normB T.cls a).2) else if (normB T.cls b).2 ≠ 0 then ([], (normB T.cls b).2) else
    if 20 < (leastB T.cls ab).length then ([], 5) else (leastB T.cls ab, 0)) := Lib.hid (by rw [← hN, meetB, hab])
  generalize leastB T.cls ab = L at HLL HN
  generalize normB T.cls a = NA at HNA HN
  generalize normB T.cls b = NB at HNB HN
  obtain ⟨na1, na⟩ := NA
  obtain ⟨nb1, nb⟩ := NB
  change Hid (N = if na ≠ 0 then ([], na) else if nb ≠ 0 then ([], nb) else if 20 < L.length then ([], 5) else (L, 0)) at HN
  have HB1 := Lib.hid hb1
  have HR0 := Lib.hid hr0
  have HR1 := Lib.hid hr1
  have HTH := Lib.hid hth
  have HS1 := Lib.hid hs1
  clear hN hab hsab hlab hT ha hb hb1 hr0 hr1 hth hs1
  unfold thyV thyC
  unfold thyC at hW1
  go_enter Try.func13, Try.ntmps13
  go_wp2
  clear hW1
  go_loopg [17] 2 (fun gg v wr => Hid (Below W1.heap.size W1 wr) ∧ ((2 ≤ gg ∧ v = .int .i64 0) ∨ (1 ≤ gg ∧ v = .int .i64 1 ∧ na = 0) ∨ (v = .int .i64 2 ∧ na = 0 ∧ nb = 0)))
  case atStart => exact ⟨Lib.hid (Below.refl _ _), .inl ⟨Nat.le_refl _, rfl⟩⟩
  case round =>
    obtain ⟨HBW, hrel⟩ := hrel
    have hth : wr.heap[w.heap.size]? = some (.cells (thyC r T) 29 (0, 0)) := (HBW.out.block _ (by have := HS1.out; omega)).trans HTH.out
    obtain ⟨z0, z1, z2, z3, z4, z5, z6⟩ := thy_cells hth
    have h0 := (HBW.out.cell (p := ⟨w.heap.size + 1, 0, none⟩) (by have := HS1.out; show w.heap.size + 1 < _; omega)).trans HR0.out
    have h1 := (HBW.out.cell (p := ⟨w.heap.size + 1, 1, none⟩) (by have := HS1.out; show w.heap.size + 1 < _; omega)).trans HR1.out
    have HBT := Lib.hid (HB1.out.trans (HBW.out.mono HB1.out.size))
    obtain ⟨hg, rfl⟩ | ⟨hg, rfl, rfl⟩ | ⟨rfl, rfl, rfl⟩ := hrel
    · go_wp2_with fail
      refine (HNA.out _ HBT.out).mono ?_
      rintro e w3 ⟨v, rfl, hm3, hb3⟩
      have HB3 := Lib.hid (HBW.out.trans (hb3.mono HBW.out.size))
      have HBT3 := Lib.hid (HB1.out.trans (HB3.out.mono HB1.out.size))
      clear hb3 hm3 z0 z1 z2 z3 z4 z5 z6 h0 h1
      by_cases hn0 : na = 0
      · subst hn0
        go_wp2
        go_roundg 1
        case measure => omega
        case rel => exact ⟨HB3, .inr (.inl ⟨Nat.le_refl _, by go_num, trivial⟩)⟩
      · obtain rfl : N = (([] : List ByteArray), na) := HN.out.trans (if_pos hn0)
        go_wp2
        go_ret2
        exact ⟨_, rfl, Mine.nil .., HBT3.out⟩
    · go_wp2_with fail
      refine (HNB.out _ HBT.out).mono ?_
      rintro e w3 ⟨v, rfl, hm3, hb3⟩
      have HB3 := Lib.hid (HBW.out.trans (hb3.mono HBW.out.size))
      have HBT3 := Lib.hid (HB1.out.trans (HB3.out.mono HB1.out.size))
      clear hb3 hm3 z0 z1 z2 z3 z4 z5 z6 h0 h1
      by_cases hn0 : nb = 0
      · subst hn0
        go_wp2
        go_roundg 0
        case measure => omega
        case rel => exact ⟨HB3, .inr (.inr ⟨by go_num, trivial, trivial⟩)⟩
      · obtain rfl : N = (([] : List ByteArray), nb) := HN.out.trans (by rw [if_neg (by decide), if_pos hn0])
        go_wp2
        go_ret2
        exact ⟨_, rfl, Mine.nil .., HBT3.out⟩
    · have HN2 : Hid (N = if 20 < L.length then ([], 5) else (L, 0)) := Lib.hid (HN.out.trans (by rw [if_neg (by decide), if_neg (by decide)]))
      clear h0 h1 HNA HNB
      go_upto_region 8 with fail
      go_cut [12] from 31 to 36 (fun v wx => ∃ A c, v = .slice A L.length c ∧ Hid (Mine str w.heap.size (fun _ => False) wx v L) ∧ Hid (Below w.heap.size w wx))
      case first =>
        have HTW := Lib.hid hth
        obtain ⟨y0, y1, y2, y3, y4, y5, y6⟩ := thy_cells (W := (wr.alloc (.cells #[.slice Aa a.length ca, .slice Ab b.length cb] 27)).drew) ((Below.heap_alloc _ _ _ (by have := (Array.getElem?_eq_some_iff.1 hth).1; omega)).trans hth)
        clear hth
        go_region_with (first
          | (go_at_call 37
             refine (HCC.out _ ?_).mono ?_
             · exact HBT.out
             rintro e w4 ⟨A, n, c, rfl, hm4, hb4⟩
             have hth4 := (hb4.block _ (Array.getElem?_eq_some_iff.1 HTW.out).1).trans HTW.out
             obtain ⟨x0, x1, x2, x3, x4, x5, x6⟩ := thy_cells hth4
             have HM4 := Lib.hid hm4
             have HB4 := Lib.hid (HBT.out.trans (hb4.mono HBT.out.size))
             clear hth4 hm4 hb4)
          | (go_at_call 34
             refine (HLL.out _ _ _ _ _ HB4.out HM4.out).mono ?_
             rintro e w5 ⟨A5, n5, c5, rfl, rfl, hm5, hb5⟩
             have HM5 := Lib.hid (hm5.lower (base' := w.heap.size) HB4.out.size)
             have HB5 := Lib.hid (HB4.out.trans (hb5.mono HB4.out.size))
             clear hm5 hb5))
        all_goals (go_wp2_with fail; go_meet; exact ⟨A5, c5, rfl, HM5, HB5⟩)
      case rest =>
        obtain ⟨A, c, rfl, HM, HB⟩ := hcut
        by_cases h20 : 20 < L.length
        · have g20 : (20 : Int) < (L.length : Int) := by omega
          obtain rfl : N = (([] : List ByteArray), 5) := HN2.out.trans (if_pos h20)
          go_wp2
          go_ret2
          exact ⟨_, rfl, Mine.nil .., HB.out⟩
        · have g20 : ¬ (20 : Int) < (L.length : Int) := by omega
          obtain rfl : N = (L, 0) := HN2.out.trans (if_neg h20)
          go_wp2
          go_ret2
          exact ⟨_, rfl, HM.out, HB.out⟩
end Go.Proofs.Ythfomoigaoffgaa.So
