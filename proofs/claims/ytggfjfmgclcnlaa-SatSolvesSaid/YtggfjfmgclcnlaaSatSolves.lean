/- SatSolves holds of every input: whatever the clauses and the fuel, the law returns true and the clauses read as they did. -/
import Derived.Test.YtggfjfmgclcnlaaVt
import Derived.Test.YtggfjfmgclcnlaaRows
import Derived.ProofKit
import Derived.OpenShut
import Derived.ShutString
import Derived.ChangeOld
import Derived.ChangeShapes
import Derived.WideShapes
import Derived.SizedLaws
namespace Go.Proofs.Ytggfjfmgclcnlaa.satSolves
open Go Go.RowKit Go.ChangeShapes Go.WideShapes Go.ChangeAt
set_option linter.unusedVariables false

theorem own : ownKnob Try.prog.godebug = none := by kernel_rfl
theorem laidOut : laidOutB Try.prog = true := by kernel_rfl
theorem o_ints (n : Nat) : G.Opens Try.prog Zb.kL (fun l => ∀ x ∈ l, (Lit.int .i64 x).wf = true) 44 n := (G.opens_int Try.underlying3 n).slice Try.underlying44 (by kernel_rfl) (by decide)
theorem o_lists (n : Nat) : G.Opens Try.prog (G.slice Zb.kL) (fun l => ∀ c ∈ l, ∀ x ∈ c, (Lit.int .i64 x).wf = true) 22 n := (o_ints n).slice Try.underlying22 (by kernel_rfl) (by decide)
theorem lists_arg {H : Type} {enc : TypeId × Value → H} {W : World} {held : Bool} {A : Option Addr} {len cap : Nat} {d : DataW H} {p : List MemPlace}
    (h : DataW.Trod enc Try.prog W 0 (fun _ => true) held 22 (.slice A len cap) d p) : ∃ l : List Z.Cls, len = l.length ∧ len ≤ cap ∧ G.C Zb.kL (fun _ => True) W A l := by
  obtain ⟨m, hm⟩ := h
  obtain ⟨l, ⟨A', c', e, hl, hC⟩, _⟩ := o_lists m m (Nat.le_refl _) H enc W _ held _ _ hm
  simp [Value.cells] at e
  obtain ⟨rfl, rfl, rfl⟩ := e
  exact ⟨l, rfl, hl, hC⟩
set_option maxRecDepth 100000 in
theorem lifted (os : Os) (started : os.Started) (H : Type) (enc : TypeId × Value → H) :
    ReturnsInHanded {} Try.checked os 3 .any (Rows.satSolvesSpec.pre6 enc Try.prog Try.f3 Rows.satSolvesRow.domain false) (Rows.satSolvesSpec.post enc Try.prog Try.f3 false true false false) := by
  refine returnsInHanded_of_change (C := Try.checked) own started (by kernel_rfl) Try.func3
    (ChangeSpec.witness6 (enc := enc) (C := Try.checked) false ⟨#[], #[.slice none 0 0, .int .i64 0], []⟩ 8 (by kernel_rfl) (by kernel_rfl) (by kernel_rfl) (by kernel_rfl)) ?_
  intro W base args ds gs before hval0 hW hcnd _
  have hval : ∀ (j : Nat) t v, Try.f3.params[j]? = some t → args[j]? = some v → Value.okWide Try.prog W .any base t v := hval0
  have hW' := hW
  obtain ⟨p, q, hA0, hV, rfl, hfz, hnd⟩ := hW
  have hA : DataW.TrodAll enc Try.prog W 0 (fun _ => true) true Try.f3.params.toList args.toList ds p := hA0
  rw [Try.params3] at hA hval
  obtain ⟨v0, v1, d0, d1, p0, p1, rfl, rfl, rfl, h0, h1⟩ := trodAll_two hA
  obtain ⟨rfl, rfl⟩ := trodVars_none hV
  obtain ⟨a0, len0, cap0, rfl⟩ := okWide_slice Try.underlying22 (hval 0 22 v0 rfl rfl)
  obtain ⟨fuel, rfl⟩ := okWide_int Try.underlying3 (hval 1 3 v1 rfl rfl)
  have k0 := h0
  have k1 := h1
  have lt0 : ∀ x ∈ p0, x.block < W.heap.size := by obtain ⟨m, hm⟩ := k0; exact DataW.trod_lt m _ _ _ hm
  have lt1 : ∀ x ∈ p1, x.block < W.heap.size := by obtain ⟨m, hm⟩ := k1; exact DataW.trod_lt m _ _ _ hm
  obtain ⟨l, rfl, hlc, hC⟩ := lists_arg h0
  clear hA0 hval0
  refine (Zb.solves_calls _ a0 cap0 l fuel W hC hlc).mono fun e W' ⟨he, bel⟩ => ?_
  subst he
  exact ⟨_, rfl, _, _, _, [], _, [], hW', trodAll_mk1 (shut_bool Try.underlying4 _), trodAll_mk2 (Below.trod laidOut (by kernel_rfl) (of_decide_eq_true (by kernel_rfl)) k0 bel lt0) (Below.trod laidOut (by kernel_rfl) (of_decide_eq_true (by kernel_rfl)) k1 bel lt1), rfl, bel.frame _, fun h => by cases h⟩

theorem over : Rows.satSolvesRow.holds Try.pinned (OpenSpec.ofChange Rows.satSolvesSpec) :=
  OpenClaim.holds_of_wide 3 Try.f3 rfl rfl rfl rfl rfl rfl rfl ⟨rfl, rfl, rfl, rfl, rfl⟩ rfl rfl rfl rfl rfl (by kernel_rfl) Try.func3 (by kernel_rfl)
    (of_decide_eq_true (by kernel_rfl)) (by unfold Func.isWrapper; first | (rw [if_pos (by decide +kernel)]; kernel_rfl) | (rw [if_neg (by decide +kernel)]; exact ⟨rfl, rfl⟩))
    (fun os started H enc _ => lifted os started H enc)
end Go.Proofs.Ytggfjfmgclcnlaa.satSolves
namespace Go.Proofs.Ytggfjfmgclcnlaa
theorem satSolves_holds : Rows.SatSolvesSaid := satSolves.over
end Go.Proofs.Ytggfjfmgclcnlaa
