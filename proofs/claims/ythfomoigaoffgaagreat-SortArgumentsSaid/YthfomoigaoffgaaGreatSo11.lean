/- Walks of sort: slices.Concat of two rows; Normal; Less. -/
import Derived.Test.YthfomoigaoffgaaGreatSo10
import Derived.Test.YthfomoigaoffgaaGreatSo5
namespace Go.Proofs.YthfomoigaoffgaaGreat.So
open Go Go.RowKit Go.Shelf Go.Sort Go.Proofs.YthfomoigaoffgaaGreat.K Go.Proofs.YthfomoigaoffgaaGreat.G Go.Proofs.YthfomoigaoffgaaGreat.Ix Go.Proofs.YthfomoigaoffgaaGreat.O
set_option linter.unusedSimpArgs false
set_option linter.unusedVariables false

theorem n1_calls (S : Nat → Prop) (r : Raw) (T : Thy) (bt : Nat) (c : ByteArray) (W : World) (hT : ThyR S W r T) (hbt : W.heap[bt]? = some (.cells (thyC r T) 29 (0, 0))) :
    Calls Tryz.prog 34 #[.string c, .pointer (some ⟨bt, 0, none⟩)] W fun e W' => e = .returned (.bool (!(has T.cls c))) ∧ Below W.heap.size W W' := by
  obtain ⟨z0, z1, z2, z3, z4, z5, z6⟩ := thy_cells hbt
  have hag := Tryz.isAgg29
  have hsz := Tryz.sizeOf29
  have HB := Lib.hid (has_calls S r T W hT c)
  clear hT hbt
  generalize has T.cls c = R at HB ⊢
  go_enter Tryz.func34, Tryz.ntmps34
  go_wp2_with (go_at_call 35; refine HB.out.mono ?_; rintro e w' ⟨rfl, hb⟩)
  go_ret
  exact ⟨rfl, hb⟩

theorem known_any (cs : List Cl) (s : List ByteArray) : knownB cs s = !(s.any fun c => !(has cs c)) := by unfold knownB; rw [List.all_eq_not_any_not]
set_option maxRecDepth 100000 in
set_option maxHeartbeats 4000000 in
theorem normal_calls (S Ss : Nat → Prop) (r : Raw) (T : Thy) (A : Option Addr) (c : Nat) (s : List ByteArray) (w : World) (hT : ThyR S w r T) (hC : C str Ss w A s) (hca : s.length ≤ c) (hl : s.length ≤ 1000000) (hss : ∀ x ∈ s, x.size ≤ maxLen) (hfew : (allSups T.cls).length ≤ 100000000) :
    Calls Tryz.prog 17 #[thyV r T, .slice A s.length c] w fun e w' => ∃ v, e = .returned (.tuple #[v, .int .i64 (normB T.cls s).2]) ∧ Mine str w.heap.size (fun _ => False) w' v (normB T.cls s).1 ∧ Below w.heap.size w w' := by
  have hbt : Below w.heap.size w (w.alloc (.cells (thyC r T) 29)) := (Below.refl _ _).alloc (Nat.le_refl _) _
  have hth : (w.alloc (.cells (thyC r T) 29)).heap[w.heap.size]? = some (.cells (thyC r T) 29 (0, 0)) := World.alloc_heap_new w _
  obtain ⟨z0, z1, z2, z3, z4, z5, z6⟩ := thy_cells hth
  have hag := Tryz.isAgg29
  have hsz := Tryz.sizeOf29
  have HCL := Lib.hid (classes_calls S r T _ (hT.below hbt))
  generalize hN : normB T.cls s = N
  generalize hE : classesE T.cls = E at HCL
  have HE := Lib.hid hE
  have HN := Lib.hid hN
  have HT := Lib.hid hT.bound
  have HC := Lib.hid hC
  have HTH := Lib.hid hth
  have HBT := Lib.hid hbt
  clear hT hC hth hbt hE hN
  unfold thyV
  go_enter Tryz.func17, Tryz.ntmps17
  go_wp2_with fail
  refine HCL.out.mono ?_
  rintro e w1 ⟨rfl, hb1⟩
  have HB1 := Lib.hid (HBT.out.trans (hb1.mono (by simp)))
  have hth1 : w1.heap[w.heap.size]? = some (.cells (thyC r T) 29 (0, 0)) := (hb1.block _ (by simp)).trans HTH.out
  clear hb1 z0 z1 z2 z3 z4 z5 z6 HTH HCL
  by_cases hE0 : E = 0
  · subst hE0
    by_cases h20 : 20 < s.length
    · have g20 : (20 : Int) < (s.length : Int) := by omega
      obtain rfl : (([] : List ByteArray), (5 : Int)) = N := by rw [← HN.out, normB, if_neg (by simp [HE.out]), if_pos h20]
      go_wp2
      go_ret2
      exact ⟨_, rfl, Mine.nil .., HB1.out⟩
    · have g20 : ¬ (20 : Int) < (s.length : Int) := by omega
      have HK := Lib.hid (ContainsFunc_string str Ss rfl (fun c => !(has T.cls c)) 34 #[.pointer (some ⟨w.heap.size, 0, none⟩)] (enters_of Tryz.func34 (by kernel_rfl) rfl) A c s w1
        (fun W' x cs hx hb hK => by
          obtain rfl : cs = [.string x] := hK
          exact n1_calls _ r T w.heap.size x W' ((HT.out.below HB1.out).below hb) ((hb.block _ (by have := (Array.getElem?_eq_some_iff.1 hth1).1; omega)).trans hth1)) (HC.out.below HB1.out) hca)
      have hk := known_any T.cls s
      have HL := Lib.hid (fun W hb => least_calls _ Ss r T A c s W (HT.out.below hb) (fun k hk => Nat.lt_of_lt_of_le hk.2 hb.size) (HC.out.below hb) hl hss hfew)
      generalize (s.any fun c => !(has T.cls c)) = R at HK hk
      have hn : normB T.cls s = if knownB T.cls s then (leastB T.cls s, 0) else ([], 9) := by rw [normB, if_neg (by simp [HE.out]), if_neg h20]
      generalize leastB T.cls s = L at HL hn
      rw [hk, HN.out] at hn
      have HN := Lib.hid hn
      have HTH1 := Lib.hid hth1
      clear hth1 hk hn
      go_wp2_with fail
      refine HK.out.mono ?_
      rintro e w2 ⟨rfl, hb2⟩
      have hth2 : w2.heap[w.heap.size]? = some (.cells (thyC r T) 29 (0, 0)) := (hb2.block _ (by have := (Array.getElem?_eq_some_iff.1 HTH1.out).1; omega)).trans HTH1.out
      obtain ⟨z0, z1, z2, z3, z4, z5, z6⟩ := thy_cells hth2
      have HB2 := Lib.hid (HB1.out.trans (hb2.mono HB1.out.size))
      clear hb2 hth2 HTH1
      cases R with
      | true =>
        obtain rfl : N = (([] : List ByteArray), (9 : Int)) := HN.out
        go_wp2
        go_ret2
        exact ⟨_, rfl, Mine.nil .., HB2.out⟩
      | false =>
        obtain rfl : N = (L, (0 : Int)) := HN.out
        go_wp2_with fail
        refine (HL.out _ HB2.out).mono ?_
        rintro e w3 ⟨v, rfl, hm, hb3⟩
        have HM := Lib.hid hm
        clear hm
        go_wp2
        go_ret2
        exact ⟨_, rfl, HM.out.lower HB2.out.size, HB2.out.trans (hb3.mono HB2.out.size)⟩
  · obtain rfl : (([] : List ByteArray), E) = N := by rw [← HN.out, normB, if_pos (by rw [HE.out]; exact hE0), HE.out]
    go_wp2
    go_ret2
    exact ⟨_, rfl, Mine.nil .., HB1.out⟩

end Go.Proofs.YthfomoigaoffgaaGreat.So
