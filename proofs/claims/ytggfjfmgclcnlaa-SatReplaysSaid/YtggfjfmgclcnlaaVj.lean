/- Walks of the laws' small functions: small, Clauses, Clone, Equal. -/
import Derived.Test.YtggfjfmgclcnlaaVhi
namespace Go.Proofs.Ytggfjfmgclcnlaa.Zb
open Go Go.RowKit Go.Shelf Go.Proofs.Ytggfjfmgclcnlaa.K Go.Proofs.Ytggfjfmgclcnlaa.G Go.Proofs.Ytggfjfmgclcnlaa.Z Go.Proofs.Ytggfjfmgclcnlaa.Ix
set_option linter.unusedSimpArgs false
set_option linter.unusedVariables false

theorem infoL : (Try.prog.info? 44).map (fun i => (i.zero, i.size, i.bytes)) = some (some (.slice none 0 0), 1, 24) := by kernel_rfl
theorem small1_calls (A : Option Addr) (n c : Nat) (w : World) (hn : n ≤ 9223372036854775807) : Calls Try.prog 31 #[.slice A n c] w fun e w' => e = .returned (.bool (decide (70 < n))) ∧ w' = w := by
  have e1 : decide ((n : Int) > 70) = decide (70 < n) := by rw [decide_eq_decide]; omega
  have e2 : decide ((70 : Int) < (n : Int)) = decide (70 < n) := by rw [decide_eq_decide]; omega
  go_enter Try.func31, Try.ntmps31
  go_wp2
  go_ret
  exact ⟨rfl, rfl⟩
def longC (c : Cls) : Bool := decide (70 < c.length)
theorem long_calls {S : Nat → Prop} {A : Option Addr} {c : Nat} {l : List Cls} {w : World} (hC : C kL S w A l) (hc : l.length ≤ c) :
    Calls Try.prog 18 #[.slice A l.length c, .func (.func 31) #[] #[]] w fun e w' => e = .returned (.bool (l.any longC)) ∧ Below w.heap.size w w' :=
  ContainsFunc_lint kL S rfl longC 31 #[] (enters_of Try.func31 (by kernel_rfl) rfl) A c l w (fun W x cs _ _ hK => by
    obtain ⟨A', c', rfl, hl, hC'⟩ := hK
    exact (small1_calls A' x.length c' W (by have := hC'.len; unfold maxLen at this; omega)).mono (fun e w' h => ⟨h.1, by rw [h.2]; exact Below.refl _ _⟩)) hC hc
def smallB (l : List Cls) (np : Nat) (most : Nat) : Bool := decide (l.length ≤ most) && decide (np ≤ most) && !(l.any longC)
theorem small_calls {S : Nat → Prop} {A : Option Addr} {c : Nat} {l : List Cls} {w : World} (hC : C kL S w A l) (hc : l.length ≤ c) (Ap : Option Addr) (np cp : Nat) (hnp : np ≤ 9223372036854775807) (most : Nat) (hm : most ≤ 1000000) :
    Calls Try.prog 7 #[.slice A l.length c, .slice Ap np cp, .int .i64 (most : Int)] w fun e w' => e = .returned (.bool (smallB l np most)) ∧ Below w.heap.size w w' := by
  have HL := Lib.hid (long_calls hC hc)
  have hll : l.length ≤ 9223372036854775807 := by have := hC.len; unfold maxLen at this; omega
  obtain ⟨b, hb⟩ : ∃ b, l.any longC = b := ⟨_, rfl⟩
  unfold smallB
  rw [hb] at HL ⊢
  generalize l.length = n at *
  clear hC hc hb
  by_cases h1 : n ≤ most
  · have g1 : (n : Int) ≤ (most : Int) := by omega
    have d1 : decide (n ≤ most) = true := decide_eq_true h1
    by_cases h2 : np ≤ most
    · have g2 : (np : Int) ≤ (most : Int) := by omega
      have d2 : decide (np ≤ most) = true := decide_eq_true h2
      rw [d1, d2]
      clear d1 d2
      go_enter Try.func7, Try.ntmps7
      go_wp2_with fail
      refine HL.out.mono ?_
      rintro e w1 ⟨rfl, hb1⟩
      have HB := Lib.hid hb1
      clear hb1 HL
      go_wp2
      go_ret
      exact ⟨by cases b <;> rfl, HB.out⟩
    · have g2 : ¬ (np : Int) ≤ (most : Int) := by omega
      have d2 : decide (np ≤ most) = false := decide_eq_false h2
      rw [d1, d2]
      clear d1 d2 HL
      go_enter Try.func7, Try.ntmps7
      go_wp2
      go_ret
      exact ⟨rfl, Below.refl _ _⟩
  · have g1 : ¬ (n : Int) ≤ (most : Int) := by omega
    have d1 : decide (n ≤ most) = false := decide_eq_false h1
    rw [d1]
    clear d1 HL
    go_enter Try.func7, Try.ntmps7
    go_wp2
    go_ret
    exact ⟨rfl, Below.refl _ _⟩
set_option maxRecDepth 100000 in
set_option maxHeartbeats 2000000 in
theorem clauses_calls {S : Nat → Prop} {A : Option Addr} {cl : Nat} {l : List Cls} {w : World} (hC : C kL S w A l) (hcl : l.length ≤ cl) (hl : l.length ≤ 1000000) :
    Calls Try.prog 12 #[.slice A l.length cl] w fun e w' => ∃ A' c', e = .returned (.slice A' l.length c') ∧ RpB w (.slice A' l.length c') l w' := by
  have HC := Lib.hid hC
  have hlm : l.length ≤ 9223372036854775807 := by omega
  clear hC
  go_enter Try.func12, Try.ntmps12
  go_wp2_with fail
  have HX0 : Hid (RpB w (.slice none 0 0) (l.take 0) w) := Lib.hid ⟨by rw [List.take_zero]; exact Mine.nil .., Below.refl _ _⟩
  go_loopg [3, 8] l.length (fun gg v3 v8 wr => ∃ (i : Nat) (A2 : Option Addr) (c2 : Nat), v3 = .slice A2 i c2 ∧ v8 = .int .i64 i ∧ i ≤ l.length ∧ l.length - i ≤ gg ∧ Hid (RpB w (.slice A2 i c2) (l.take i) wr))
  case atStart => exact ⟨0, none, 0, rfl, rfl, by omega, by omega, HX0⟩
  case round =>
    clear HX0
    obtain ⟨i, A2, c2, rfl, rfl, hi, hg, HX⟩ := hrel
    by_cases hlt : i < l.length
    · have hltz : (i : Int) < (l.length : Int) := by omega
      have hi0 : (0 : Int) ≤ (i : Int) := by omega
      have Hlt := Lib.hid hlt
      obtain ⟨b6, o6, A6, c6, rfl, hb6, q6, hl6, hC6⟩ := cls_at (HC.out.bound.below HX.out.below) i hlt
      have hCx : C kI (fun k => (k < w.heap.size ∨ k = wr.heap.size) ∧ k < (wr.alloc (.cells #[.slice A6 (l[i]'hlt).length c6] 56)).heap.size) (wr.alloc (.cells #[.slice A6 (l[i]'hlt).length c6] 56)) A6 (l[i]'hlt) := (hC6.below ((Below.refl _ _).alloc (Nat.le_refl _) _)).bound.mono (fun k hk => ⟨.inl hk.1.2, hk.2⟩)
      have hall := HX.out.all.below ((Below.refl wr.heap.size wr).alloc (Nat.le_refl _) (.cells #[.slice A6 (l[i]'hlt).length c6] 56))
      have hbs := HX.out.all
      have hbz := HX.out.below.size
      obtain ⟨A', n', c', w', hrun, hn', hm, hgr, ho⟩ := append_own (c := 1) (S := Any) (S' := fun k => (k < w.heap.size ∨ k = wr.heap.size) ∧ k < (wr.alloc (.cells #[.slice A6 (l[i]'hlt).length c6] 56)).heap.size) Try.underlying34 infoC rfl (by decide) (by decide) hall (one_cls (alloc_new _ _) ⟨.inr rfl, by simp⟩ hl6 hCx)
        (fun k hk => ⟨trivial, fun e => by have := hbs.base_le e; rcases hk.1 with h | h <;> omega⟩) (by rw [List.length_take]; simp; omega) (by simp; omega)
      have hbw : Below w.heap.size w w' := HX.out.below.trans ((((Below.refl wr.heap.size wr).alloc (Nat.le_refl _) (.cells #[.slice A6 (l[i]'hlt).length c6] 56)).mono hbz).trans ((Chg.grown hgr (fun k e => .inl e) (T := fun k => (Value.slice A2 i c2).ownBlock = some k)).below (by simp; omega) (fun k e => (hbs.base_le e).1)))
      rw [List.take_append_getElem hlt] at hm hn'
      rw [List.length_take, Nat.min_eq_left Hlt.out] at hn'
      subst hn'
      have HX2 := Lib.hid (RpB.mk hm hbw)
      have HRun := Lib.hid hrun
      generalize l[i]'hlt = x at *
      clear hCx hall hbs hrun hm hgr ho hbw hC6 HX hlt
      go_wp2_with (at_builtin; refine G.wpList_append_run rfl _ _ _ rfl _ _ rfl rfl _ _ HRun.out ?_)
      go_roundg (l.length - (i + 1))
      case measure => omega
      case rel => exact ⟨i + 1, A', c', rfl, by go_num, Hlt.out, Nat.le_refl _, HX2⟩
    · have hltz : ¬ (i : Int) < (l.length : Int) := by omega
      have hie : i = l.length := by omega
      have hfin : Hid (RpB w (.slice A2 l.length c2) l wr) := Lib.hid (by have := HX.out; rw [hie, List.take_length] at this; exact this)
      subst hie
      clear HX hlt
      go_wp2
      go_ret
      exact ⟨A2, c2, rfl, hfin.out⟩
set_option maxRecDepth 100000 in
set_option maxHeartbeats 1000000 in
theorem clone_lists {S : Nat → Prop} {A : Option Addr} {c : Nat} {l : List (List Int)} {w : World} (hC : C kL S w A l) (hl : l.length ≤ 1000000) :
    Calls Try.prog 25 #[.slice A l.length c] w fun e w' => ∃ A' c', e = .returned (.slice A' l.length c') ∧ Mine kL w.heap.size S w' (.slice A' l.length c') l ∧ Below w.heap.size w w' := by
  have kn := fun (w : World) (A : Option Addr) (n c : Nat) => Lib.run_eql_slice_nil (P := Try.prog) w 22 44 A n c 0 0 Try.underlying22
  cases A with
  | none =>
    have hl0 : l = [] := by
      by_cases e : l = []
      · exact e
      · obtain ⟨b, o, e1, _⟩ := hC.2 e; cases e1
    subst hl0
    clear hC
    go_enter Try.func25, Try.ntmps25
    go_wp2
    go_ret
    exact ⟨_, _, rfl, Mine.nil .., Below.refl _ _⟩
  | some ad =>
    have hb : Below w.heap.size w (w.alloc (.cells #[] 44)) := (Below.refl _ _).alloc (Nat.le_refl _) _
    obtain ⟨A', n', c', w', hrun, hn', hm, hg, ho⟩ := append_own (c := c) (S := S) Try.underlying22 infoL rfl (by decide) (by decide) (mine_empty kL (S := S) (base := w.heap.size) (g := w.heap.size) (w := w.alloc (.cells #[] 44)) (Nat.le_refl _) (by simp)) (hC.bound.below hb) (fun k hk => ⟨hk.1, fun e => by simp [Value.ownBlock] at e; have := hk.2; omega⟩) (by simp; omega) (by simp)
    rw [List.nil_append] at hn' hm
    have hbb : Below w.heap.size w w' := hb.trans ((Chg.grown hg (fun k e => .inl e) (T := fun k => (Value.slice (some ⟨w.heap.size, 0, none⟩) 0 0).ownBlock = some k)).below (by simp) (fun k e => by simp [Value.ownBlock] at e; omega))
    subst hn'
    have HRun := Lib.hid hrun
    clear hrun hC hb hg ho
    have hl2 : l.length ≤ 9223372036854775807 := by omega
    go_enter Try.func25, Try.ntmps25
    go_wp2_with (at_builtin; refine G.wpList_append_run rfl _ _ _ rfl _ _ rfl rfl _ _ HRun.out ?_)
    go_ret
    exact ⟨_, _, rfl, hm, hbb⟩
end Go.Proofs.Ytggfjfmgclcnlaa.Zb
