/- Walks of sort.Check: sorted, IsNormal. -/
import Derived.Test.YthfomoigaoffgaaGreatAr1
import Derived.Test.YthfomoigaoffgaaGreatSo15x
namespace Go.Proofs.YthfomoigaoffgaaGreat.Ch
open Go Go.RowKit Go.Proofs.YthfomoigaoffgaaGreat.K Go.Proofs.YthfomoigaoffgaaGreat.G Go.Proofs.YthfomoigaoffgaaGreat.Ix Go.Proofs.YthfomoigaoffgaaGreat.O Go.Proofs.YthfomoigaoffgaaGreat.So
set_option linter.unusedSimpArgs false
set_option linter.unusedVariables false

theorem s1_calls (S : Nat → Prop) (r : Raw) (T : Thy) (bt : Nat) (c : ByteArray) (W : World) (hT : ThyR S W r T) (hbt : W.heap[bt]? = some (.cells (thyC r T) 29 (0, 0))) :
    Calls Tryz.prog 81 #[.string c, .pointer (some ⟨bt, 0, none⟩)] W fun e W' => e = .returned (.bool (!(has T.cls c))) ∧ Below W.heap.size W W' := by
  obtain ⟨z0, z1, z2, z3, z4, z5, z6⟩ := thy_cells hbt
  have hag := Tryz.isAgg29
  have hsz := Tryz.sizeOf29
  have HB := Lib.hid (has_calls S r T W hT c)
  clear hT hbt
  generalize has T.cls c = R at HB ⊢
  go_enter Tryz.func81, Tryz.ntmps81
  go_wp2_with (go_at_call 35; refine HB.out.mono ?_; rintro e w' ⟨rfl, hb⟩)
  go_ret
  exact ⟨rfl, hb⟩

set_option maxHeartbeats 1000000 in
theorem isNormal_calls (S Ss : Nat → Prop) (r : Raw) (T : Thy) (A : Option Addr) (c : Nat) (s : List ByteArray) (w : World) (hT : ThyR S w r T) (hC : C str Ss w A s) (hl : s.length ≤ 1000000) (hss : ∀ x ∈ s, x.size ≤ maxLen) (hfew : (allSups T.cls).length ≤ 100000000) :
    Calls Tryz.prog 82 #[thyV r T, .slice A s.length c] w fun e w' => e = .returned (.bool (decide (s = leastB T.cls s))) ∧ Below w.heap.size w w' := by
  have hag := Tryz.isAgg29
  have hsz := Tryz.sizeOf29
  obtain ⟨W1, hW1⟩ : ∃ W1, w.alloc (.cells (thyC r T) 29) = W1 := ⟨_, rfl⟩
  have hT1 : W1.heap[w.heap.size]? = some (.cells (thyC r T) 29 (0, 0)) := by rw [← hW1]; exact World.alloc_heap_new w _
  have hb1 : Below w.heap.size w W1 := by rw [← hW1]; exact (Below.refl _ _).alloc (Nat.le_refl _) _
  obtain ⟨y0, y1, y2, y3, y4, y5, y6⟩ := thy_cells hT1
  have HL := Lib.hid (So.least_calls _ Ss r T A c s W1 (hT.bound.below hb1) (fun k hk => Nat.lt_of_lt_of_le hk.2 hb1.size) (hC.below hb1) hl hss hfew)
  have HC := Lib.hid hC
  have HB1 := Lib.hid hb1
  clear hC hT hT1 hb1
  generalize leastB T.cls s = L at HL ⊢
  unfold thyV thyC at HL
  unfold thyV
  unfold thyC at hW1 ⊢
  go_enter Tryz.func82, Tryz.ntmps82
  go_wp2_with fail
  refine HL.out.mono ?_
  rintro e w2 ⟨v, rfl, hm, hb2⟩
  obtain ⟨A2, c2, rfl, _⟩ := hm.form
  have HB2 := Lib.hid (HB1.out.trans (hb2.mono HB1.out.size))
  have HC2 := Lib.hid hm.read.2.2
  clear hm hb2 hW1 y0 y1 y2 y3 y4 y5 y6
  go_wp2_with fail
  refine (equal_calls _ _ A A2 c c2 s L w2 (HC.out.below HB2.out) HC2.out).mono ?_
  rintro e w3 ⟨rfl, hb3⟩
  have HB3 := Lib.hid (HB2.out.trans (hb3.mono HB2.out.size))
  clear hb3
  go_wp2
  go_ret
  exact ⟨rfl, HB3.out⟩

set_option maxHeartbeats 1000000 in
theorem sorted_calls (S Ss : Nat → Prop) (r : Raw) (T : Thy) (A : Option Addr) (c : Nat) (s : List ByteArray) (w : World) (hT : ThyR S w r T) (hC : C str Ss w A s) (hca : s.length ≤ c) (hl : s.length ≤ 1000000) (hss : ∀ x ∈ s, x.size ≤ maxLen) (hfew : (allSups T.cls).length ≤ 100000000) :
    Calls Tryz.prog 67 #[thyV r T, .slice A s.length c] w fun e w' => e = .returned (.int .i64 (sortE T.cls s)) ∧ Below w.heap.size w w' := by
  have hag := Tryz.isAgg29
  have hsz := Tryz.sizeOf29
  have hmf : ∀ (fn : Fn) (first cap : Array Value) (w : World), (Instr.makeFunc fn first cap).run Tryz.prog w = .ok (.func fn first cap) w := fun _ _ _ _ => rfl
  obtain ⟨W1, hW1⟩ : ∃ W1, w.alloc (.cells (thyC r T) 29) = W1 := ⟨_, rfl⟩
  have hT1 : W1.heap[w.heap.size]? = some (.cells (thyC r T) 29 (0, 0)) := by rw [← hW1]; exact World.alloc_heap_new w _
  have hb1 : Below w.heap.size w W1 := by rw [← hW1]; exact (Below.refl _ _).alloc (Nat.le_refl _) _
  have hTW := hT.below hb1
  have HK := Lib.hid (ContainsFunc_string str Ss rfl (fun c => !(has T.cls c)) 81 #[.pointer (some ⟨w.heap.size, 0, none⟩)] (enters_of Tryz.func81 (by kernel_rfl) rfl) A c s W1
    (fun W' x cs hx hb hK => by
      obtain rfl : cs = [.string x] := hK
      exact s1_calls _ r T w.heap.size x W' (hTW.below hb) ((hb.block _ (Array.getElem?_eq_some_iff.1 hT1).1).trans hT1)) (hC.below hb1) hca)
  have HN := Lib.hid (fun W (hb : Below w.heap.size w W) => isNormal_calls S Ss r T A c s W (hT.below hb) (hC.below hb) hl hss hfew)
  have HT1 := Lib.hid hT1
  have HB1 := Lib.hid hb1
  have hlm : s.length ≤ 9223372036854775807 := by omega
  unfold sortE
  have hk := known_any T.cls s
  generalize (s.any fun c => !(has T.cls c)) = R at HK hk
  generalize decide (s = leastB T.cls s) = D at HN ⊢
  rw [hk]
  clear hC hT hTW hT1 hb1 hk
  unfold thyV thyC at HN
  unfold thyV
  unfold thyC at hW1 ⊢
  by_cases h20 : 20 < s.length
  · rw [if_pos h20]
    have g20 : (20 : Int) < (s.length : Int) := by omega
    go_enter Tryz.func67, Tryz.ntmps67
    go_wp2
    go_ret
    exact ⟨rfl, HB1.out⟩
  · rw [if_neg h20]
    have g20 : ¬ (20 : Int) < (s.length : Int) := by omega
    clear h20
    go_enter Tryz.func67, Tryz.ntmps67
    go_wp2_with fail
    refine HK.out.mono ?_
    rintro e w2 ⟨rfl, hb2⟩
    have HB2 := Lib.hid (HB1.out.trans (hb2.mono HB1.out.size))
    obtain ⟨z0, z1, z2, z3, z4, z5, z6⟩ := thy_cells (Rf.box_below HT1.out hb2)
    clear hb2 hW1
    cases R with
    | true =>
      go_wp2
      go_ret
      exact ⟨rfl, HB2.out⟩
    | false =>
      go_wp2_with fail
      refine (HN.out _ HB2.out).mono ?_
      rintro e w3 ⟨rfl, hb3⟩
      have HB3 := Lib.hid (HB2.out.trans (hb3.mono HB2.out.size))
      clear hb3
      cases D with
      | true =>
        go_wp2
        go_ret
        exact ⟨rfl, HB3.out⟩
      | false =>
        go_wp2
        go_ret
        exact ⟨rfl, HB3.out⟩
end Go.Proofs.YthfomoigaoffgaaGreat.Ch
