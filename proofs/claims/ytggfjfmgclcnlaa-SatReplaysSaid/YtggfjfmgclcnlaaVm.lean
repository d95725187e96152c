/- Walks: Steps, Equal of steps; what the reference says of values (abs, holds, Hold). -/
import Derived.Test.YtggfjfmgclcnlaaVpr
namespace Go.Proofs.Ytggfjfmgclcnlaa.Zb
open Go Go.RowKit Go.Shelf Go.Proofs.Ytggfjfmgclcnlaa.K Go.Proofs.Ytggfjfmgclcnlaa.G Go.Proofs.Ytggfjfmgclcnlaa.Z
set_option linter.unusedSimpArgs false
set_option linter.unusedVariables false

set_option maxRecDepth 100000 in
set_option maxHeartbeats 2000000 in
theorem steps_calls {S : Nat → Prop} {A : Option Addr} {cl : Nat} {l : List Stp} {w : World} (hC : C kS S w A l) (hcl : l.length ≤ cl) (hl : l.length ≤ 1000000) :
    Calls Try.prog 24 #[.slice A l.length cl] w fun e w' => ∃ A' c', e = .returned (.slice A' l.length c') ∧ Mine kS w.heap.size NoB w' (.slice A' l.length c') l ∧ Below w.heap.size w w' := by
  have HC := Lib.hid hC
  have hlm : l.length ≤ 9223372036854775807 := by omega
  clear hC
  go_enter Try.func24, Try.ntmps24
  go_wp2_with fail
  have HX0 : Hid (Mine kS w.heap.size NoB w (.slice none 0 0) (l.take 0) ∧ Below w.heap.size w w) := Lib.hid ⟨by rw [List.take_zero]; exact Mine.nil .., Below.refl _ _⟩
  go_loopg [3, 8] l.length (fun gg v3 v8 wr => ∃ (i : Nat) (A2 : Option Addr) (c2 : Nat), v3 = .slice A2 i c2 ∧ v8 = .int .i64 i ∧ i ≤ l.length ∧ l.length - i ≤ gg ∧ Hid (Mine kS w.heap.size NoB wr (.slice A2 i c2) (l.take i) ∧ Below w.heap.size w wr))
  case atStart => exact ⟨0, none, 0, rfl, rfl, by omega, by omega, HX0⟩
  case round =>
    clear HX0
    obtain ⟨i, A2, c2, rfl, rfl, hi, hg, HX⟩ := hrel
    by_cases hlt : i < l.length
    · have hltz : (i : Int) < (l.length : Int) := by omega
      have hi0 : (0 : Int) ≤ (i : Int) := by omega
      have Hlt := Lib.hid hlt
      obtain ⟨b6, o6, rfl, hb6, p0, p1, p2⟩ := step_at (HC.out.below HX.out.2) i hlt
      obtain ⟨hm0, hbl⟩ := HX.out
      have htk : l.take i ++ [l[i]'hlt] = l.take (i + 1) := List.take_append_getElem hlt
      generalize l[i]'hlt = s at *
      obtain ⟨x, y, z⟩ := s
      dsimp only at p0 p1 p2
      obtain ⟨W1, hW1⟩ : ∃ W1, wr.alloc (.cells #[.int .i64 x, .int .i64 y, .int .i64 z] 67) = W1 := ⟨_, rfl⟩
      have hb1 : Below wr.heap.size wr W1 := by rw [← hW1]; exact (Below.refl _ _).alloc (Nat.le_refl _) _
      have hb2 : Below W1.heap.size W1 (W1.alloc (.cells #[.int .i64 x, .int .i64 y, .int .i64 z] 55)) := (Below.refl _ _).alloc (Nat.le_refl _) _
      have hb12 := hb1.trans (hb2.mono hb1.size)
      obtain ⟨A', n', c', w', hrun, hn', hm, hgr, ho⟩ := append_own (c := 1) (S := Any) (S' := fun k => k = W1.heap.size) (ys := [(x, y, z)]) (A := some ⟨W1.heap.size, 0, none⟩) Try.underlying29 infoS rfl (by decide) (by decide) ((hm0.below hb12).mono (fun _ h => h.elim)) (one_stp (alloc_new W1 _) rfl)
        (fun k hk => ⟨trivial, fun e => by have := (hm0.base_le e).2; have := hb1.size; omega⟩) (by rw [List.length_take]; simp; omega) (Nat.le_trans hbl.size hb12.size)
      have hbw : Below w.heap.size w w' := hbl.trans ((hb12.mono hbl.size).trans ((Chg.grown hgr (fun k e => .inl e) (T := fun k => (Value.slice A2 i c2).ownBlock = some k)).below (Nat.le_trans hbl.size hb12.size) (fun k e => (hm0.base_le e).1)))
      rw [htk] at hm hn'
      rw [List.length_take, Nat.min_eq_left Hlt.out] at hn'
      subst hn'
      have HX2 := Lib.hid (And.intro (mine_stp hm) hbw)
      have HRun := Lib.hid hrun
      have d0 : W1.cell? ⟨wr.heap.size, 0, none⟩ = some (.int .i64 x) := by rw [← hW1]; exact cells_at wr #[.int .i64 x, .int .i64 y, .int .i64 z] _ _ 0 rfl
      have d1 : W1.cell? ⟨wr.heap.size, 1, none⟩ = some (.int .i64 y) := by rw [← hW1]; exact cells_at wr #[.int .i64 x, .int .i64 y, .int .i64 z] _ _ 1 rfl
      have d2 : W1.cell? ⟨wr.heap.size, 2, none⟩ = some (.int .i64 z) := by rw [← hW1]; exact cells_at wr #[.int .i64 x, .int .i64 y, .int .i64 z] _ _ 2 rfl
      clear hb1 hb2 hb12 hm0 hbl hrun hm hgr ho hbw HX hlt htk
      go_upto_region 5 with fail
      clear hW1
      go_wp2_with (at_builtin; refine G.wpList_append_run rfl _ _ _ rfl _ _ rfl rfl _ _ HRun.out ?_)
      go_roundg (l.length - (i + 1))
      case measure => have := Hlt.out; omega
      case rel => exact ⟨i + 1, A', c', rfl, by go_num, Hlt.out, Nat.le_refl _, HX2⟩
    · have hltz : ¬ (i : Int) < (l.length : Int) := by omega
      have hie : i = l.length := by omega
      have hfin : Hid (Mine kS w.heap.size NoB wr (.slice A2 l.length c2) l ∧ Below w.heap.size w wr) := Lib.hid (by have := HX.out; rw [hie, List.take_length] at this; exact this)
      subst hie
      clear HX hlt
      go_wp2
      go_ret
      exact ⟨A2, c2, rfl, hfin.out.1, hfin.out.2⟩
set_option maxRecDepth 100000 in
set_option maxHeartbeats 2000000 in
theorem equal_steps {S S' : Nat → Prop} {A B : Option Addr} {ca cb : Nat} {a : List Stp} {w : World} (ha : C kS S w A a) (hb : C kS S' w B a) :
    Calls Try.prog 23 #[.slice A a.length ca, .slice B a.length cb] w fun e w' => e = .returned (.bool true) ∧ ∃ k, w' = w.drewN k := by
  have hla : a.length ≤ 9223372036854775807 := by have := ha.len; unfold maxLen at this; omega
  have HA := Lib.hid ha
  have HB := Lib.hid hb
  clear ha hb
  go_enter Try.func23, Try.ntmps23
  go_wp2_with fail
  go_loopg [13] a.length (fun gg v13 wr => ∃ i : Nat, v13 = .int .i64 i ∧ i ≤ a.length ∧ a.length - i ≤ gg ∧ Hid (∃ k, wr = w.drewN k))
  case atStart => exact ⟨0, rfl, by omega, by omega, Lib.hid ⟨0, rfl⟩⟩
  case round =>
    obtain ⟨i, rfl, hi, hg, HD⟩ := hrel
    by_cases hlt : i < a.length
    · have hltz : (i : Int) < (a.length : Int) := by omega
      have hi0 : (0 : Int) ≤ (i : Int) := by omega
      have Hlt := Lib.hid hlt
      obtain ⟨k, rfl⟩ := HD.out
      obtain ⟨b1, o1, rfl, hb1, q0, q1, q2⟩ := step_at HA.out i hlt
      obtain ⟨b2, o2, rfl, hb2, r0, r1, r2⟩ := step_at HB.out i hlt
      generalize a[i]'hlt = s at *
      obtain ⟨x, y, z⟩ := s
      dsimp only at q0 q1 q2 r0 r1 r2
      have p0 : (w.drewN k).cell? ⟨b1, o1 + i * 3, none⟩ = some (.int .i64 x) := q0
      have p1 : (w.drewN k).cell? ⟨b1, o1 + i * 3 + 1, none⟩ = some (.int .i64 y) := q1
      have p2 : (w.drewN k).cell? ⟨b1, o1 + i * 3 + 2, none⟩ = some (.int .i64 z) := q2
      have s0 : (w.drewN k).cell? ⟨b2, o2 + i * 3, none⟩ = some (.int .i64 x) := r0
      have s1 : (w.drewN k).cell? ⟨b2, o2 + i * 3 + 1, none⟩ = some (.int .i64 y) := r1
      have s2 : (w.drewN k).cell? ⟨b2, o2 + i * 3 + 2, none⟩ = some (.int .i64 z) := r2
      clear q0 q1 q2 r0 r1 r2 HD hlt
      generalize hw : w.drewN k = wr at *
      have HW : Hid (∃ k, wr = w.drewN k) := Lib.hid ⟨k, hw.symm⟩
      clear hw
      go_upto_region 6 with fail
      go_quiet (fail)
      go_wp2
      go_roundg (a.length - (i + 1))
      case measure => have := Hlt.out; omega
      case rel => exact ⟨i + 1, by go_num, Hlt.out, Nat.le_refl _, Lib.hid (drewN_more HW.out _)⟩
    · have hltz : ¬ (i : Int) < (a.length : Int) := by omega
      go_wp2
      go_ret
      exact ⟨rfl, HD.out⟩
end Go.Proofs.Ytggfjfmgclcnlaa.Zb
