/- Walks of the reference of sorts: sorts, Normal, Meet; the law SortNormals. -/
import Derived.Test.YthfomoigaoffgaaRf6
import Derived.Test.YthfomoigaoffgaaSo15
namespace Go.Proofs.Ythfomoigaoffgaa.Rf
open Go Go.RowKit Go.Proofs.Ythfomoigaoffgaa.K Go.Proofs.Ythfomoigaoffgaa.G Go.Proofs.Ythfomoigaoffgaa.Ix Go.Proofs.Ythfomoigaoffgaa.O Go.Proofs.Ythfomoigaoffgaa.So
set_option linter.unusedSimpArgs false
set_option linter.unusedVariables false

theorem classes_small {cs : List Cl} (h : classesE cs = 0) : cs.length ≤ 1000000 := by
  unfold classesE at h
  split at h
  · exact absurd h (by decide)
  · omega
theorem sl_at {S : Nat → Prop} {w : World} {A : Option Addr} {l : List (List ByteArray)} (h : C (slice str) S w A l) (j : Nat) (hj : j < l.length) : ∃ b o A' c', A = some ⟨b, o, none⟩ ∧ b < w.heap.size ∧ w.cell? ⟨b, o + j, none⟩ = some (.slice A' (l[j]'hj).length c') ∧ (l[j]'hj).length ≤ c' ∧ C str S w A' (l[j]'hj) := by
  obtain ⟨b, o, cs, e, _, hb, ⟨A', c', rfl, h1, h2⟩, hc⟩ := h.at_ j hj
  have e1 : (slice str).sz = 1 := rfl
  have := hc 0 _ rfl
  rw [e1, Nat.mul_one, Nat.add_zero] at this
  exact ⟨b, o, A', c', e, hb, this, h1, h2⟩

set_option maxRecDepth 100000 in
set_option maxHeartbeats 2000000 in
theorem sorts_calls (S Sl : Nat → Prop) (r : Raw) (T : Thy) (A : Option Addr) (c : Nat) (ss : List (List ByteArray)) (w : World) (hT : ThyR S w r T) (hC : C (slice str) Sl w A ss) :
    Calls Try.prog 35 #[thyV r T, .slice A ss.length c] w fun e w' => e = .returned (.int .i64 (sortsA T.cls ss)) ∧ Below w.heap.size w w' := by
  have HCl := Lib.hid (fun (W : World) (hb : Below w.heap.size w W) => classes_calls S r T W (hT.below hb))
  have HKn := Lib.hid (fun (W : World) (hb : Below w.heap.size w W) Sa A c s hC => known_calls S Sa r T A c s W (hT.below hb) hC)
  have HC := Lib.hid hC
  have hlm : ss.length ≤ 9223372036854775807 := hC.len
  clear hC hT
  unfold sortsA
  have hag := Try.isAgg29
  have hsz := Try.sizeOf29
  obtain ⟨W1, hW1⟩ : ∃ W1, w.alloc (.cells (thyC r T) 29) = W1 := ⟨_, rfl⟩
  have hT1 : W1.heap[w.heap.size]? = some (.cells (thyC r T) 29 (0, 0)) := by rw [← hW1]; exact World.alloc_heap_new w _
  have HB1 := Lib.hid (show Below w.heap.size w W1 by rw [← hW1]; exact (Below.refl _ _).alloc (Nat.le_refl _) _)
  obtain ⟨y0, y1, y2, y3, y4, y5, y6⟩ := thy_cells' hT1
  have HT1 := Lib.hid hT1
  clear hT1
  unfold thyV thyC at HCl HKn
  unfold thyV
  unfold thyC at hW1 ⊢
  by_cases h0 : classesE T.cls = 0
  · rw [if_neg (fun h => h h0)]
    rw [h0] at HCl
    generalize hR : sortsE T.cls ss = R
    have HR := Lib.hid (show sortsE T.cls (ss.drop 0) = R from hR)
    clear hR h0
    go_enter Try.func35, Try.ntmps35
    go_wp2_with fail
    refine (HCl.out _ HB1.out).mono ?_
    rintro e w2 ⟨rfl, hb2⟩
    have HB2 := Lib.hid (HB1.out.trans (hb2.mono HB1.out.size))
    have HT2 := Lib.hid (box_below HT1.out hb2)
    clear hb2 hW1 y0 y1 y2 y3 y4 y5 y6 HB1 HT1
    go_wp2
    go_loopg [6] ss.length (fun gg v wr => ∃ i : Nat, v = .int .i64 i ∧ i ≤ ss.length ∧ ss.length - i ≤ gg ∧ Hid (sortsE T.cls (ss.drop i) = R) ∧ Hid (wr.heap[w.heap.size]? = some (.cells (thyC r T) 29 (0, 0))) ∧ Hid (Below w.heap.size w wr))
    case atStart => exact ⟨0, rfl, by omega, by omega, HR, HT2, HB2⟩
    case round =>
      clear HR HT2 HB2
      obtain ⟨i, rfl, hi, hg, HR, HT, HB⟩ := hrel
      by_cases hlt : i < ss.length
      · have hltz : (i : Int) < (ss.length : Int) := by omega
        have hi0 : (0 : Int) ≤ (i : Int) := by omega
        have Hlt := Lib.hid hlt
        obtain ⟨b, o, A', c', rfl, _, q0, hlc, hCs⟩ := sl_at (HC.out.below HB.out) i hlt
        have hr := HR.out
        rw [List.drop_eq_getElem_cons hlt, sortsE] at hr
        generalize ss[i]'hlt = s at q0 hlc hCs hr
        obtain ⟨x0, x1, x2, x3, x4, x5, x6⟩ := thy_cells' HT.out
        by_cases h20 : 20 < s.length
        · rw [if_pos h20] at hr
          subst hr
          have g20 : (20 : Int) < (s.length : Int) := by omega
          clear HR
          go_wp2
          go_ret
          exact ⟨rfl, HB.out⟩
        · rw [if_neg h20] at hr
          have g20 : ¬ (20 : Int) < (s.length : Int) := by omega
          have HCs := Lib.hid hCs
          have HK := Lib.hid (fun (W : World) (hb : Below w.heap.size w W) (hb2 : Below wr.heap.size wr W) => HKn.out W hb _ A' c' s (hCs.below hb2))
          clear hCs HR
          cases hk : knownB T.cls s with
          | true =>
            rw [hk, if_pos rfl] at hr
            rw [hk] at HK
            have HR2 := Lib.hid hr
            clear hr hk
            go_wp2
            go_region_with (go_at_call 49; refine (HK.out _ (below_drew1 HB.out) (below_drew1 (Below.refl _ _))).mono ?_; rintro e w4 ⟨rfl, hb4⟩; have hb4 := undrew hb4; have HB4 := Lib.hid (HB.out.trans (hb4.mono HB.out.size)); have HT4 := Lib.hid (box_below HT.out hb4); clear hb4)
            all_goals
              go_wp2
              go_roundg (ss.length - (i + 1))
              case measure => omega
              case rel => exact ⟨i + 1, by go_num, Hlt.out, Nat.le_refl _, HR2, HT4, HB4⟩
          | false =>
            rw [hk, if_neg (by decide)] at hr
            rw [hk] at HK
            subst hr
            clear hk
            go_wp2
            go_region_with (go_at_call 49; refine (HK.out _ (below_drew1 HB.out) (below_drew1 (Below.refl _ _))).mono ?_; rintro e w4 ⟨rfl, hb4⟩; have hb4 := undrew hb4; have HB4 := Lib.hid (HB.out.trans (hb4.mono HB.out.size)); clear hb4)
            all_goals
              go_wp2
              go_ret
              exact ⟨rfl, HB4.out⟩
      · have hltz : ¬ (i : Int) < (ss.length : Int) := by omega
        have hr := HR.out
        rw [List.drop_eq_nil_of_le (by omega)] at hr
        obtain rfl : (0 : Int) = R := hr
        clear HR
        go_wp2
        go_ret
        exact ⟨rfl, HB.out⟩
  · rw [if_pos h0]
    have g : (classesE T.cls != 0) = true := bne_iff_ne.2 h0
    generalize classesE T.cls = E at HCl g
    clear h0
    go_enter Try.func35, Try.ntmps35
    go_wp2_with fail
    refine (HCl.out _ HB1.out).mono ?_
    rintro e w2 ⟨rfl, hb2⟩
    have HB2 := Lib.hid (HB1.out.trans (hb2.mono HB1.out.size))
    clear hb2 hW1 y0 y1 y2 y3 y4 y5 y6 HB1 HT1
    go_wp2
    go_ret
    exact ⟨rfl, HB2.out⟩

theorem sorts_ok {cs : List Cl} {ss : List (List ByteArray)} (h : sortsA cs ss = 0) : classesE cs = 0 ∧ ∀ s ∈ ss, knownB cs s = true ∧ s.length ≤ 20 := by
  unfold sortsA at h
  by_cases h0 : classesE cs = 0
  · rw [if_neg (fun h => h h0)] at h
    refine ⟨h0, ?_⟩
    induction ss with
    | nil => exact fun s hs => absurd hs List.not_mem_nil
    | cons x r ih =>
      rw [sortsE] at h
      split at h
      · exact absurd h (by decide)
      · rename_i h1
        split at h
        · rename_i h2
          intro s hs
          rcases List.mem_cons.1 hs with rfl | hs
          · exact ⟨h2, by omega⟩
          · exact ih h s hs
        · exact absurd h (by decide)
  · rw [if_pos h0] at h
    exact absurd h h0

set_option maxRecDepth 100000 in
set_option maxHeartbeats 2000000 in
theorem Normal_calls (S Sa : Nat → Prop) (r : Raw) (T : Thy) (A : Option Addr) (c : Nat) (s : List ByteArray) (w : World) (hT : ThyR S w r T) (hC : C str Sa w A s) (hc : s.length ≤ c) :
    Calls Try.prog 12 #[thyV r T, .slice A s.length c] w fun e w' => ∃ A' n' c', e = .returned (.tuple #[.slice A' n' c', .int .i64 (normB T.cls s).2]) ∧ Mine str w.heap.size (fun _ => False) w' (.slice A' n' c') (normB T.cls s).1 ∧ Below w.heap.size w w' := by
  have hag := Try.isAgg29
  have hsz := Try.sizeOf29
  obtain ⟨W1, hW1⟩ : ∃ W1, w.alloc (.cells (thyC r T) 29) = W1 := ⟨_, rfl⟩
  have hs1 : W1.heap.size = w.heap.size + 1 := by rw [← hW1]; simp
  have hT1 : W1.heap[w.heap.size]? = some (.cells (thyC r T) 29 (0, 0)) := by rw [← hW1]; exact World.alloc_heap_new w _
  have hb1 : Below w.heap.size w W1 := by rw [← hW1]; exact (Below.refl _ _).alloc (Nat.le_refl _) _
  obtain ⟨y0, y1, y2, y3, y4, y5, y6⟩ := thy_cells' hT1
  obtain ⟨W2, hW2⟩ : ∃ W2, W1.alloc (.cells #[.slice A s.length c] 27) = W2 := ⟨_, rfl⟩
  have hb12 : Below W1.heap.size W1 W2 := by rw [← hW2]; exact (Below.refl _ _).alloc (Nat.le_refl _) _
  have hb2 : Below w.heap.size w W2 := hb1.trans (hb12.mono hb1.size)
  have HT2 := Lib.hid (box_below hT1 hb12)
  have hCl : C (slice str) (fun _ => True) W2 (some ⟨W1.heap.size, 0, none⟩) [s] := C.lit [[.slice A s.length c]] ⟨⟨A, c, rfl, hc, (hC.below hb2).mono (fun _ _ => trivial)⟩, trivial⟩ (by rw [← hW2]; exact World.alloc_heap_new W1 _) trivial (by simp [maxLen])
  have HSo := Lib.hid (sorts_calls S (fun _ => True) r T _ 1 [s] W2 (hT.below hb2) hCl)
  rw [hs1] at HSo
  have HB2 := Lib.hid hb2
  rw [norm_ref]
  clear hb12 hb2 hb1 hCl hT1
  by_cases h0 : sortsA T.cls [s] = 0
  · obtain ⟨k0, k1⟩ := sorts_ok h0
    obtain ⟨k2, k3⟩ := k1 s (by simp)
    rw [if_neg (fun h => h h0)]
    rw [h0] at HSo
    have HL := Lib.hid (fun (W : World) (hb : Below w.heap.size w W) => least_calls S Sa r T A c s W (hT.below hb) (classes_right k0) (classes_small k0) (hC.below hb) k2 (by omega))
    generalize leastB T.cls s = L at HL
    clear h0 k0 k1 k2 k3 hC hT
    unfold thyV thyC at HSo HL
    unfold thyV
    unfold thyC at hW1 ⊢
    go_enter Try.func12, Try.ntmps12
    go_wp2_with fail
    refine HSo.out.mono ?_
    rintro e w3 ⟨rfl, hb3⟩
    have HB3 := Lib.hid (HB2.out.trans (hb3.mono HB2.out.size))
    have HT3 := Lib.hid (box_below HT2.out hb3)
    clear hb3 hW1 hW2 hs1 y0 y1 y2 y3 y4 y5 y6
    obtain ⟨x0, x1, x2, x3, x4, x5, x6⟩ := thy_cells' HT3.out
    go_wp2_with fail
    refine (HL.out _ HB3.out).mono ?_
    rintro e w4 ⟨A4, n4, c4, rfl, hm4, hb4⟩
    have HM4 := Lib.hid (hm4.lower HB3.out.size)
    have HB4 := Lib.hid (HB3.out.trans (hb4.mono HB3.out.size))
    clear hm4 hb4
    go_wp2
    go_ret2
    exact ⟨_, _, _, rfl, HM4.out, HB4.out⟩
  · rw [if_pos h0]
    have g : (sortsA T.cls [s] != 0) = true := bne_iff_ne.2 h0
    generalize sortsA T.cls [s] = E at HSo g
    clear h0 hC hT
    unfold thyV thyC at HSo
    unfold thyV
    unfold thyC at hW1 ⊢
    go_enter Try.func12, Try.ntmps12
    go_wp2_with fail
    refine HSo.out.mono ?_
    rintro e w3 ⟨rfl, hb3⟩
    have HB3 := Lib.hid (HB2.out.trans (hb3.mono HB2.out.size))
    clear hb3 hW1 hW2 hs1 y0 y1 y2 y3 y4 y5 y6
    go_wp2
    go_ret2
    exact ⟨_, _, _, rfl, Mine.nil .., HB3.out⟩
end Go.Proofs.Ythfomoigaoffgaa.Rf
