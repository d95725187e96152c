/- SatReplays holds of every input: whatever the clauses and the steps, the law returns true and all read as they did. -/
import Derived.Test.YtggfjfmgclcnlaaVuw
import Derived.Test.YtggfjfmgclcnlaaRows
import Derived.ProofKit
import Derived.OpenShut
import Derived.ShutString
import Derived.ChangeOld
import Derived.ChangeShapes
import Derived.WideShapes
import Derived.SizedLaws
namespace Go.Proofs.Ytggfjfmgclcnlaa.satReplays
open Go Go.RowKit Go.ChangeShapes Go.WideShapes Go.ChangeAt
set_option linter.unusedVariables false

theorem own : ownKnob Try.prog.godebug = none := by kernel_rfl
theorem laidOut : laidOutB Try.prog = true := by kernel_rfl
theorem o_ints (n : Nat) : G.Opens Try.prog Zb.kL (fun l => ∀ x ∈ l, (Lit.int .i64 x).wf = true) 44 n := (G.opens_int Try.underlying3 n).slice Try.underlying44 (by kernel_rfl) (by decide)
theorem o_lists (n : Nat) : G.Opens Try.prog (G.slice Zb.kL) (fun l => ∀ c ∈ l, ∀ x ∈ c, (Lit.int .i64 x).wf = true) 22 n := (o_ints n).slice Try.underlying22 (by kernel_rfl) (by decide)
theorem lists_arg {H : Type} {enc : TypeId × Value → H} {W : World} {held : Bool} {A : Option Addr} {len cap : Nat} {d : DataW H} {p : List MemPlace}
    (h : DataW.Trod enc Try.prog W 0 (fun _ => true) held 22 (.slice A len cap) d p) : ∃ l : List Z.Cls, len = l.length ∧ len ≤ cap ∧ G.C Zb.kL (fun _ => True) W A l := by
  obtain ⟨m, hm⟩ := h
  obtain ⟨l, ⟨A', c', e, hl, hC⟩, _⟩ := o_lists m m (Nat.le_refl _) H enc W _ held _ _ hm
  simp [Value.cells] at e
  obtain ⟨rfl, rfl, rfl⟩ := e
  exact ⟨l, rfl, hl, hC⟩
abbrev okS := fun s : Z.Stp => (Lit.int .i64 s.1).wf = true ∧ (Lit.int .i64 s.2.1).wf = true ∧ (Lit.int .i64 s.2.2).wf = true
theorem o_stp (n : Nat) : G.Opens Try.prog Zb.kS okS 67 (n + 1) := by
  refine G.OpensFs.struct ?_ Try.underlying67 rfl (by kernel_rfl)
  exact G.Opens.cons (G.opens_int Try.underlying3 n) (G.Opens.cons (G.opens_int Try.underlying3 n) (G.Opens.last (G.opens_int Try.underlying3 n) rfl rfl (by kernel_rfl)) rfl rfl (by kernel_rfl)) rfl rfl (by kernel_rfl)
theorem o_stps (n : Nat) : G.Opens Try.prog (G.slice Zb.kS) (fun l => ∀ s ∈ l, okS s) 41 (n + 1) := (o_stp n).slice Try.underlying41 (by kernel_rfl) (by decide)
theorem stps_arg {H : Type} {enc : TypeId × Value → H} {W : World} {held : Bool} {A : Option Addr} {len cap : Nat} {d : DataW H} {p : List MemPlace}
    (h : DataW.Trod enc Try.prog W 0 (fun _ => true) held 41 (.slice A len cap) d p) : ∃ l : List Z.Stp, len = l.length ∧ len ≤ cap ∧ G.C Zb.kS (fun _ => True) W A l ∧ ∀ s ∈ l, -9223372036854775808 ≤ s.2.2 ∧ s.2.2 ≤ 9223372036854775807 := by
  obtain ⟨m, hm⟩ := h
  obtain ⟨l, ⟨A', c', e, hl, hC⟩, hok⟩ := o_stps m m (by omega) H enc W _ held _ _ hm
  simp [Value.cells] at e
  obtain ⟨rfl, rfl, rfl⟩ := e
  refine ⟨l, rfl, hl, hC, fun s hs => ?_⟩
  have := (hok s hs).2.2
  simp only [Lit.wf, Bool.and_eq_true, decide_eq_true_eq] at this
  have e1 : IntKind.i64.min = -9223372036854775808 := by decide
  have e2 : IntKind.i64.max = 9223372036854775807 := by decide
  omega

set_option maxRecDepth 100000 in
theorem lifted (os : Os) (started : os.Started) (H : Type) (enc : TypeId × Value → H) :
    ReturnsInHanded {} Try.checked os 6 .any (Rows.satReplaysSpec.pre6 enc Try.prog Try.f6 Rows.satReplaysRow.domain false) (Rows.satReplaysSpec.post enc Try.prog Try.f6 false true false false) := by
  refine returnsInHanded_of_change (C := Try.checked) own started (by kernel_rfl) Try.func6
    (ChangeSpec.witness6 (enc := enc) (C := Try.checked) false ⟨#[], #[.slice none 0 0, .slice none 0 0], []⟩ 8 (by kernel_rfl) (by kernel_rfl) (by kernel_rfl) (by kernel_rfl)) ?_
  intro W base args ds gs before hval0 hW hcnd _
  have hval : ∀ (j : Nat) t v, Try.f6.params[j]? = some t → args[j]? = some v → Value.okWide Try.prog W .any base t v := hval0
  have hW' := hW
  obtain ⟨p, q, hA0, hV, rfl, hfz, hnd⟩ := hW
  have hA : DataW.TrodAll enc Try.prog W 0 (fun _ => true) true Try.f6.params.toList args.toList ds p := hA0
  rw [Try.params6] at hA hval
  obtain ⟨v0, v1, d0, d1, p0, p1, rfl, rfl, rfl, h0, h1⟩ := trodAll_two hA
  obtain ⟨rfl, rfl⟩ := trodVars_none hV
  obtain ⟨a0, len0, cap0, rfl⟩ := okWide_slice Try.underlying22 (hval 0 22 v0 rfl rfl)
  obtain ⟨a1, len1, cap1, rfl⟩ := okWide_slice Try.underlying41 (hval 1 41 v1 rfl rfl)
  have k0 := h0
  have k1 := h1
  have lt0 : ∀ x ∈ p0, x.block < W.heap.size := by obtain ⟨m, hm⟩ := k0; exact DataW.trod_lt m _ _ _ hm
  have lt1 : ∀ x ∈ p1, x.block < W.heap.size := by obtain ⟨m, hm⟩ := k1; exact DataW.trod_lt m _ _ _ hm
  obtain ⟨l, rfl, hlc, hC⟩ := lists_arg h0
  obtain ⟨m, rfl, hmc, hM, hmi⟩ := stps_arg h1
  clear hA0 hval0
  refine (Zb.replays_calls _ _ a0 a1 cap0 cap1 l m W hC hlc hM hmc hmi).mono fun e W' ⟨he, bel⟩ => ?_
  subst he
  exact ⟨_, rfl, _, _, _, [], _, [], hW', trodAll_mk1 (shut_bool Try.underlying4 _),
    trodAll_mk2 (Below.trod laidOut (by kernel_rfl) (of_decide_eq_true (by kernel_rfl)) k0 bel lt0) (Below.trod laidOut (by kernel_rfl) (of_decide_eq_true (by kernel_rfl)) k1 bel lt1), rfl, bel.frame _, fun h => by cases h⟩

theorem over : Rows.satReplaysRow.holds Try.pinned (OpenSpec.ofChange Rows.satReplaysSpec) :=
  OpenClaim.holds_of_wide 6 Try.f6 rfl rfl rfl rfl rfl rfl rfl ⟨rfl, rfl, rfl, rfl, rfl⟩ rfl rfl rfl rfl rfl (by kernel_rfl) Try.func6 (by kernel_rfl)
    (of_decide_eq_true (by kernel_rfl)) (by unfold Func.isWrapper; first | (rw [if_pos (by decide +kernel)]; kernel_rfl) | (rw [if_neg (by decide +kernel)]; exact ⟨rfl, rfl⟩))
    (fun os started H enc _ => lifted os started H enc)
end Go.Proofs.Ytggfjfmgclcnlaa.satReplays
namespace Go.Proofs.Ytggfjfmgclcnlaa
theorem satReplays_holds : Rows.SatReplaysSaid := satReplays.over
end Go.Proofs.Ytggfjfmgclcnlaa
