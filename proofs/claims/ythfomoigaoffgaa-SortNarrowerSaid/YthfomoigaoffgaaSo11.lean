/- Walks of sort: slices.Concat of two rows; Normal; Less. -/
import Derived.Test.YthfomoigaoffgaaSo10
import Derived.Test.YthfomoigaoffgaaSo5
namespace Go.Proofs.Ythfomoigaoffgaa.So
open Go Go.RowKit Go.Shelf Go.Sort Go.Proofs.Ythfomoigaoffgaa.K Go.Proofs.Ythfomoigaoffgaa.G Go.Proofs.Ythfomoigaoffgaa.Ix Go.Proofs.Ythfomoigaoffgaa.O
set_option linter.unusedSimpArgs false
set_option linter.unusedVariables false

theorem grow_int (z : Int) (n : Nat) (w : World) (hz : z = (n : Int)) (hn : n ≤ 1000000) : Calls Try.prog 73 #[.slice none 0 0, .int .i64 z] w fun e w' => ∃ A c, e = .returned (.slice A 0 c) ∧ Mine str w.heap.size (fun _ => False) w' (.slice A 0 c) [] ∧ Below w.heap.size w w' := by
  subst hz; exact grow_calls n w hn
set_option maxRecDepth 100000 in
set_option maxHeartbeats 4000000 in
theorem concat_calls (Sa Sb : Nat → Prop) (B : Nat) (A1 A2 : Option Addr) (c1 c2 : Nat) (a b : List ByteArray) (w : World) (h0 : w.cell? ⟨B, 0, none⟩ = some (.slice A1 a.length c1)) (h1 : w.cell? ⟨B, 1, none⟩ = some (.slice A2 b.length c2))
    (ha : C str Sa w A1 a) (hb : C str Sb w A2 b) (la : a.length ≤ 100000) (lb : b.length ≤ 100000) :
    Calls Try.prog 37 #[.slice (some ⟨B, 0, none⟩) 2 2] w fun e w' => ∃ A n c, e = .returned (.slice A n c) ∧ Mine str w.heap.size (fun _ => False) w' (.slice A n c) (a ++ b) ∧ Below w.heap.size w w' := by
  have HG := Lib.hid (fun (z : Int) W (hz : z = ((a.length + b.length : Nat) : Int)) => grow_int z (a.length + b.length) W hz (by omega))
  have n1 : ¬ (0 : Int) + (a.length : Int) < 0 := by omega
  have n2 : ¬ (0 : Int) + (a.length : Int) + (b.length : Int) < 0 := by omega
  have HA := Lib.hid ha
  have HB := Lib.hid hb
  have H0 := Lib.hid h0
  have H1 := Lib.hid h1
  clear ha hb
  have hBl := lt_of_cell h0
  clear h0 h1
  go_enter Try.func37, Try.ntmps37
  go_wp2
  go_loopg [3, 11] 2 (fun gg s v wr => w = wr ∧ ((2 ≤ gg ∧ v = .int .i64 0 ∧ s = .int .i64 0) ∨ (1 ≤ gg ∧ v = .int .i64 1 ∧ s = .int .i64 (0 + a.length)) ∨ (v = .int .i64 2 ∧ s = .int .i64 (0 + a.length + b.length))))
  case atStart => exact ⟨rfl, .inl ⟨Nat.le_refl _, rfl, rfl⟩⟩
  case round =>
    obtain ⟨rfl, ⟨hg, rfl, rfl⟩ | ⟨hg, rfl, rfl⟩ | ⟨rfl, rfl⟩⟩ := hrel
    · have h0 := H0.out
      have h1 : ∀ x : Int, x = (0 + a.length : Int) → ¬ x < 0 := by omega
      go_wp2
      go_roundg 1
      case measure => omega
      case rel => exact ⟨rfl, .inr (.inl ⟨Nat.le_refl _, by go_num, by go_num⟩)⟩
    · have h1 := H1.out
      go_wp2
      go_roundg 0
      case measure => omega
      case rel => exact ⟨rfl, .inr (.inr ⟨by go_num, by go_num⟩)⟩
    · go_wp2_with fail
      refine (HG.out _ _ (by omega)).mono ?_
      rintro e w1 ⟨A0, c0, rfl, hm0, hb0⟩
      have HM0 := Lib.hid hm0
      have HB0 := Lib.hid hb0
      clear hm0 hb0
      go_wp2
      go_loopg [6, 27] 2 (fun gg s v wr => ∃ (k : Nat) (A : Option Addr) (n c : Nat), v = .int .i64 k ∧ k ≤ 2 ∧ 2 - k ≤ gg ∧ s = .slice A n c ∧ Hid (Mine str w.heap.size (fun _ => False) wr s (if k = 0 then [] else if k = 1 then a else a ++ b)) ∧ Hid (Below w.heap.size w wr))
      case atStart => exact ⟨0, A0, 0, c0, rfl, by omega, by omega, rfl, HM0, HB0⟩
      case round =>
        clear HM0 HB0
        obtain ⟨k, A, n, c, rfl, hk, hg, rfl, HM, HBl⟩ := hrel
        have h0 := (HBl.out.cell (p := ⟨B, 0, none⟩) hBl).trans H0.out
        have h1 := (HBl.out.cell (p := ⟨B, 1, none⟩) hBl).trans H1.out
        obtain rfl | rfl | rfl : k = 0 ∨ k = 1 ∨ k = 2 := by omega
        · obtain ⟨A', n', c', w', hrun, hm, hgr⟩ := append_str HM.out (HA.out.below HBl.out) (c := c1) (by simp; omega) HBl.out.size
          have hc : Chg (fun k => (Value.slice A n c).ownBlock = some k) wr w' := Chg.grown hgr (fun k e => .inl e)
          have HR := Lib.hid hrun
          have HB' := Lib.hid (HBl.out.trans (hc.below HBl.out.size (fun k hk => by have := (HM.out.base_le hk).1; omega)))
          have HM' := Lib.hid hm
          clear hrun hm hgr hc h1
          go_wp2_with (at_builtin; refine Lib.wpList_append_run _ rfl _ _ _ _ rfl _ _ rfl rfl _ _ HR.out ?_)
          go_roundg 1
          case measure => omega
          case rel => exact ⟨1, A', n', c', by go_num, by omega, by omega, rfl, HM', HB'⟩
        · obtain ⟨A', n', c', w', hrun, hm, hgr⟩ := append_str HM.out (HB.out.below HBl.out) (c := c2) (by simp; omega) HBl.out.size
          have hc : Chg (fun k => (Value.slice A n c).ownBlock = some k) wr w' := Chg.grown hgr (fun k e => .inl e)
          have HR := Lib.hid hrun
          have HB' := Lib.hid (HBl.out.trans (hc.below HBl.out.size (fun k hk => by have := (HM.out.base_le hk).1; omega)))
          have HM' := Lib.hid hm
          clear hrun hm hgr hc h0
          go_wp2_with (at_builtin; refine Lib.wpList_append_run _ rfl _ _ _ _ rfl _ _ rfl rfl _ _ HR.out ?_)
          go_roundg 0
          case measure => omega
          case rel => exact ⟨2, A', n', c', by go_num, by omega, by omega, rfl, HM', HB'⟩
        · go_wp2
          go_ret
          exact ⟨A, n, c, rfl, HM.out, HBl.out⟩

theorem concat2_calls (Sa Sb : Nat → Prop) (A1 A2 : Option Addr) (c1 c2 : Nat) (a b : List ByteArray) (w : World) (ha : C str Sa w A1 a) (hb : C str Sb w A2 b) (la : a.length ≤ 100000) (lb : b.length ≤ 100000) :
    Calls Try.prog 37 #[.slice (some ⟨w.heap.size, 0, none⟩) 2 2] (w.alloc (.cells #[.slice A1 a.length c1, .slice A2 b.length c2] 27)) fun e w' => ∃ A n c, e = .returned (.slice A n c) ∧ Mine str w.heap.size (fun _ => False) w' (.slice A n c) (a ++ b) ∧ Below w.heap.size w w' := by
  have hbx : Below w.heap.size w (w.alloc (.cells #[.slice A1 a.length c1, .slice A2 b.length c2] 27)) := (Below.refl _ _).alloc (Nat.le_refl _) _
  refine (concat_calls Sa Sb w.heap.size A1 A2 c1 c2 a b _ (cells_at _ _ _ _ 0 rfl) (cells_at _ _ _ _ 1 rfl) (ha.below hbx) (hb.below hbx) la lb).mono ?_
  rintro e w' ⟨A, n, c, rfl, hm, hb'⟩
  exact ⟨A, n, c, rfl, hm.lower (by simp), hbx.trans (hb'.mono (by simp))⟩

theorem n1_calls (S : Nat → Prop) (r : Raw) (T : Thy) (bt : Nat) (c : ByteArray) (W : World) (hT : ThyR S W r T) (hbt : W.heap[bt]? = some (.cells (thyC r T) 29 (0, 0))) :
    Calls Try.prog 32 #[.string c, .pointer (some ⟨bt, 0, none⟩)] W fun e W' => e = .returned (.bool (!(has T.cls c))) ∧ Below W.heap.size W W' := by
  obtain ⟨z0, z1, z2, z3, z4, z5, z6⟩ := thy_cells hbt
  have hag := Try.isAgg29
  have hsz := Try.sizeOf29
  have HB := Lib.hid (has_calls S r T W hT c)
  clear hT hbt
  generalize has T.cls c = R at HB ⊢
  go_enter Try.func32, Try.ntmps32
  go_wp2_with (go_at_call 33; refine HB.out.mono ?_; rintro e w' ⟨rfl, hb⟩)
  go_ret
  exact ⟨rfl, hb⟩

theorem e1_calls (S : Nat → Prop) (r : Raw) (T : Thy) (bt : Nat) (c : ByteArray) (W : World) (hT : ThyR S W r T) (hbt : W.heap[bt]? = some (.cells (thyC r T) 29 (0, 0))) :
    Calls Try.prog 38 #[.string c, .pointer (some ⟨bt, 0, none⟩)] W fun e W' => e = .returned (.bool (!(has T.cls c))) ∧ Below W.heap.size W W' := by
  obtain ⟨z0, z1, z2, z3, z4, z5, z6⟩ := thy_cells hbt
  have hag := Try.isAgg29
  have hsz := Try.sizeOf29
  have HB := Lib.hid (has_calls S r T W hT c)
  clear hT hbt
  generalize has T.cls c = R at HB ⊢
  go_enter Try.func38, Try.ntmps38
  go_wp2_with (go_at_call 33; refine HB.out.mono ?_; rintro e w' ⟨rfl, hb⟩)
  go_ret
  exact ⟨rfl, hb⟩

theorem known_any (cs : List Cl) (s : List ByteArray) : knownB cs s = !(s.any fun c => !(has cs c)) := by unfold knownB; rw [List.all_eq_not_any_not]
set_option maxRecDepth 100000 in
set_option maxHeartbeats 4000000 in
theorem normal_calls (S Ss : Nat → Prop) (r : Raw) (T : Thy) (A : Option Addr) (c : Nat) (s : List ByteArray) (w : World) (hT : ThyR S w r T) (hC : C str Ss w A s) (hca : s.length ≤ c) (hl : s.length ≤ 1000000) (hss : ∀ x ∈ s, x.size ≤ maxLen) (hfew : (allSups T.cls).length ≤ 100000000) :
    Calls Try.prog 11 #[thyV r T, .slice A s.length c] w fun e w' => ∃ v, e = .returned (.tuple #[v, .int .i64 (normB T.cls s).2]) ∧ Mine str w.heap.size (fun _ => False) w' v (normB T.cls s).1 ∧ Below w.heap.size w w' := by
  have hbt : Below w.heap.size w (w.alloc (.cells (thyC r T) 29)) := (Below.refl _ _).alloc (Nat.le_refl _) _
  have hth : (w.alloc (.cells (thyC r T) 29)).heap[w.heap.size]? = some (.cells (thyC r T) 29 (0, 0)) := World.alloc_heap_new w _
  obtain ⟨z0, z1, z2, z3, z4, z5, z6⟩ := thy_cells hth
  have hag := Try.isAgg29
  have hsz := Try.sizeOf29
  have HCL := Lib.hid (classes_calls S r T _ (hT.below hbt))
  generalize hN : normB T.cls s = N
  generalize hE : classesE T.cls = E at HCL
  have HE := Lib.hid hE
  have HN := Lib.hid hN
  have HT := Lib.hid hT.bound
  have HC := Lib.hid hC
  have HTH := Lib.hid hth
  have HBT := Lib.hid hbt
  clear hT hC hth hbt hE hN
  unfold thyV
  go_enter Try.func11, Try.ntmps11
  go_wp2_with fail
  refine HCL.out.mono ?_
  rintro e w1 ⟨rfl, hb1⟩
  have HB1 := Lib.hid (HBT.out.trans (hb1.mono (by simp)))
  have hth1 : w1.heap[w.heap.size]? = some (.cells (thyC r T) 29 (0, 0)) := (hb1.block _ (by simp)).trans HTH.out
  clear hb1 z0 z1 z2 z3 z4 z5 z6 HTH HCL
  by_cases hE0 : E = 0
  · subst hE0
    by_cases h20 : 20 < s.length
    · have g20 : (20 : Int) < (s.length : Int) := by omega
      obtain rfl : (([] : List ByteArray), (5 : Int)) = N := by rw [← HN.out, normB, if_neg (by simp [HE.out]), if_pos h20]
      go_wp2
      go_ret2
      exact ⟨_, rfl, Mine.nil .., HB1.out⟩
    · have g20 : ¬ (20 : Int) < (s.length : Int) := by omega
      have HK := Lib.hid (ContainsFunc_string str Ss rfl (fun c => !(has T.cls c)) 32 #[.pointer (some ⟨w.heap.size, 0, none⟩)] (enters_of Try.func32 (by kernel_rfl) rfl) A c s w1
        (fun W' x cs hx hb hK => by
          obtain rfl : cs = [.string x] := hK
          exact n1_calls _ r T w.heap.size x W' ((HT.out.below HB1.out).below hb) ((hb.block _ (by have := (Array.getElem?_eq_some_iff.1 hth1).1; omega)).trans hth1)) (HC.out.below HB1.out) hca)
      have hk := known_any T.cls s
      have HL := Lib.hid (fun W hb => least_calls _ Ss r T A c s W (HT.out.below hb) (fun k hk => Nat.lt_of_lt_of_le hk.2 hb.size) (HC.out.below hb) hl hss hfew)
      generalize (s.any fun c => !(has T.cls c)) = R at HK hk
      have hn : normB T.cls s = if knownB T.cls s then (leastB T.cls s, 0) else ([], 9) := by rw [normB, if_neg (by simp [HE.out]), if_neg h20]
      generalize leastB T.cls s = L at HL hn
      rw [hk, HN.out] at hn
      have HN := Lib.hid hn
      have HTH1 := Lib.hid hth1
      clear hth1 hk hn
      go_wp2_with fail
      refine HK.out.mono ?_
      rintro e w2 ⟨rfl, hb2⟩
      have hth2 : w2.heap[w.heap.size]? = some (.cells (thyC r T) 29 (0, 0)) := (hb2.block _ (by have := (Array.getElem?_eq_some_iff.1 HTH1.out).1; omega)).trans HTH1.out
      obtain ⟨z0, z1, z2, z3, z4, z5, z6⟩ := thy_cells hth2
      have HB2 := Lib.hid (HB1.out.trans (hb2.mono HB1.out.size))
      clear hb2 hth2 HTH1
      cases R with
      | true =>
        obtain rfl : N = (([] : List ByteArray), (9 : Int)) := HN.out
        go_wp2
        go_ret2
        exact ⟨_, rfl, Mine.nil .., HB2.out⟩
      | false =>
        obtain rfl : N = (L, (0 : Int)) := HN.out
        go_wp2_with fail
        refine (HL.out _ HB2.out).mono ?_
        rintro e w3 ⟨v, rfl, hm, hb3⟩
        have HM := Lib.hid hm
        clear hm
        go_wp2
        go_ret2
        exact ⟨_, rfl, HM.out.lower HB2.out.size, HB2.out.trans (hb3.mono HB2.out.size)⟩
  · obtain rfl : (([] : List ByteArray), E) = N := by rw [← HN.out, normB, if_pos (by rw [HE.out]; exact hE0), HE.out]
    go_wp2
    go_ret2
    exact ⟨_, rfl, Mine.nil .., HB1.out⟩

set_option maxRecDepth 100000 in
set_option maxHeartbeats 4000000 in
theorem less_calls (S Sa Sb : Nat → Prop) (r : Raw) (T : Thy) (Aa Ab : Option Addr) (ca cb : Nat) (a b : List ByteArray) (w : World) (hT : ThyR S w r T) (ha : C str Sa w Aa a) (hca : a.length ≤ ca) (hb : C str Sb w Ab b) (hcb : b.length ≤ cb)
    (la : a.length ≤ 100000) (lb : b.length ≤ 100000) (hal : ∀ x ∈ a, x.size ≤ maxLen) (hfew : (allSups T.cls).length ≤ 100000000) :
    Calls Try.prog 18 #[thyV r T, .slice Aa a.length ca, .slice Ab b.length cb] w fun e w' => e = .returned (.bool (lessB T.cls a b)) ∧ Below w.heap.size w w' := by
  have hbt : Below w.heap.size w (w.alloc (.cells (thyC r T) 29)) := (Below.refl _ _).alloc (Nat.le_refl _) _
  have hth : (w.alloc (.cells (thyC r T) 29)).heap[w.heap.size]? = some (.cells (thyC r T) 29 (0, 0)) := World.alloc_heap_new w _
  obtain ⟨z0, z1, z2, z3, z4, z5, z6⟩ := thy_cells hth
  have hag := Try.isAgg29
  have hsz := Try.sizeOf29
  have HCL := Lib.hid (classes_calls S r T _ (hT.below hbt))
  generalize hN : lessB T.cls a b = N
  generalize hE : classesE T.cls = E at HCL
  have HE := Lib.hid hE
  have HN := Lib.hid hN
  have HT := Lib.hid hT
  have HA := Lib.hid ha
  have HB := Lib.hid hb
  have HTH := Lib.hid hth
  have HBT := Lib.hid hbt
  clear hT ha hb hth hbt hE hN
  unfold thyV
  go_enter Try.func18, Try.ntmps18
  go_wp2_with fail
  refine HCL.out.mono ?_
  rintro e w1 ⟨rfl, hb1⟩
  have HB1 := Lib.hid (HBT.out.trans (hb1.mono (by simp)))
  have hth1 : w1.heap[w.heap.size]? = some (.cells (thyC r T) 29 (0, 0)) := (hb1.block _ (by simp)).trans HTH.out
  have hlt1 : w.heap.size < w1.heap.size := by have := hb1.size; simp at this; omega
  clear hb1 z0 z1 z2 z3 z4 z5 z6 HTH HCL
  by_cases hE0 : E = 0
  · subst hE0
    have HTH1 := Lib.hid hth1
    clear hth1
    go_wp2_with fail
    refine (concat2_calls Sa Sb Aa Ab ca cb a b w1 (HA.out.below HB1.out) (HB.out.below HB1.out) la lb).mono ?_
    rintro e w2 ⟨A, n, c, rfl, hm, hb2⟩
    have HB2 := Lib.hid (HB1.out.trans (hb2.mono HB1.out.size))
    have hth2 : w2.heap[w.heap.size]? = some (.cells (thyC r T) 29 (0, 0)) := (hb2.block _ hlt1).trans HTH1.out
    have hlt2 : w.heap.size < w2.heap.size := by have := hb2.size; omega
    have hn : lessB T.cls a b = (knownB T.cls (a ++ b) && withinB T.cls a b) := by rw [lessB, HE.out, decide_eq_true rfl, Bool.true_and]
    generalize a ++ b = ab at hm hn
    obtain ⟨rfl, hnc, hCm⟩ := hm.read
    have HK := Lib.hid (ContainsFunc_string str _ rfl (fun c => !(has T.cls c)) 38 #[.pointer (some ⟨w.heap.size, 0, none⟩)] (enters_of Try.func38 (by kernel_rfl) rfl) A c ab w2
        (fun W' x cs hx hb hK => by
          obtain rfl : cs = [.string x] := hK
          exact e1_calls _ r T w.heap.size x W' ((HT.out.below HB2.out).below hb) ((hb.block _ hlt2).trans hth2)) hCm hnc)
    have hk := known_any T.cls ab
    generalize (ab.any fun c => !(has T.cls c)) = R at HK hk
    rw [hk, HN.out] at hn
    have HN := Lib.hid hn
    have HTH2 := Lib.hid hth2
    clear hth2 hk hn hm hCm hb2 HTH1
    go_wp2_with fail
    refine HK.out.mono ?_
    rintro e w3 ⟨rfl, hb3⟩
    have hth3 : w3.heap[w.heap.size]? = some (.cells (thyC r T) 29 (0, 0)) := (hb3.block _ hlt2).trans HTH2.out
    obtain ⟨z0, z1, z2, z3, z4, z5, z6⟩ := thy_cells hth3
    have HB3 := Lib.hid (HB2.out.trans (hb3.mono HB2.out.size))
    clear hb3 hth3 HTH2
    cases R with
    | true =>
      obtain rfl : N = false := HN.out
      go_wp2
      go_ret
      exact ⟨rfl, HB3.out⟩
    | false =>
      have HW := Lib.hid (within_calls S Sa Sb r T Aa Ab ca cb a b w3 (HT.out.below HB3.out) (HA.out.below HB3.out) hca (HB.out.below HB3.out) hcb hal hfew)
      rw [show withinB T.cls a b = N from (HN.out : N = withinB T.cls a b).symm] at HW
      go_wp2_with fail
      refine HW.out.mono ?_
      rintro e w4 ⟨rfl, hb4⟩
      go_wp2
      go_ret
      exact ⟨rfl, HB3.out.trans (hb4.mono HB3.out.size)⟩
  · obtain rfl : false = N := by rw [← HN.out, lessB, HE.out, decide_eq_false hE0, Bool.false_and]
    go_wp2
    go_ret
    exact ⟨rfl, HB1.out⟩
end Go.Proofs.Ythfomoigaoffgaa.So
