/- TokenWrites holds of every input: whatever the keywords and the tokens, the law returns true and both read as they did. -/
import Derived.Test.YtmkfeanggmjhmaaGreatVW
import Derived.Test.YtmkfeanggmjhmaaGreatRow
namespace Go.Proofs.YtmkfeanggmjhmaaGreat.tokenWrites
open Go Go.RowKit Go.ChangeShapes Go.WideShapes Go.ChangeAt Go.Proofs.YtmkfeanggmjhmaaGreatW.PrintWords
set_option linter.unusedVariables false

theorem o_tok (n : Nat) : G.Opens Tryz.prog Vw.kTk (fun x => (Lit.int .i64 x.1).wf = true ∧ x.2.1.size ≤ maxLen ∧ (Lit.int .i64 x.2.2).wf = true) 37 (n + 1) := by
  refine G.OpensFs.struct ?_ Tryz.underlying37 rfl (by kernel_rfl)
  exact G.Opens.cons (G.opens_int Tryz.underlying3 n) (G.Opens.cons (G.opens_str Tryz.underlying9 n) (G.Opens.last (G.opens_int Tryz.underlying3 n) rfl rfl (by kernel_rfl)) rfl rfl (by kernel_rfl)) rfl rfl (by kernel_rfl)
theorem o_toks (n : Nat) : G.Opens Tryz.prog (G.slice Vw.kTk) (fun l => ∀ x ∈ l, (Lit.int .i64 x.1).wf = true ∧ x.2.1.size ≤ maxLen ∧ (Lit.int .i64 x.2.2).wf = true) 35 (n + 1) := (o_tok n).slice Tryz.underlying35 (by kernel_rfl) (by decide)
theorem toks_arg {H : Type} {enc : TypeId × Value → H} {W : World} {held : Bool} {A : Option Addr} {len cap : Nat} {d : DataW H} {p : List MemPlace}
    (h : DataW.Trod enc Tryz.prog W 0 (fun _ => true) held 35 (.slice A len cap) d p) : ∃ ts : List J.Tk, ts.length = len ∧ len ≤ cap ∧ G.C Vw.kTk (fun _ => True) W A ts := by
  obtain ⟨m, hm⟩ := h
  obtain ⟨l, ⟨A', c', e, hl, hC⟩, hs⟩ := o_toks m m (by omega) H enc W _ held _ _ hm
  simp [Value.cells] at e
  obtain ⟨rfl, rfl, rfl⟩ := e
  exact ⟨l, rfl, hl, hC⟩

set_option maxRecDepth 100000 in
theorem lifted (os : Os) (started : os.Started) (H : Type) (enc : TypeId × Value → H) :
    ReturnsInHanded {} Tryz.checked os 4 .any (Rows.tokenWritesSpec.pre6 enc Tryz.prog Tryz.f4 Rows.tokenWritesRow.domain false) (Rows.tokenWritesSpec.post enc Tryz.prog Tryz.f4 false true false false) := by
  refine returnsInHanded_of_change (C := Tryz.checked) Row.own started (by kernel_rfl) Tryz.func4
    (ChangeSpec.witness6 (enc := enc) (C := Tryz.checked) false ⟨#[], #[.slice none 0 0, .slice none 0 0], []⟩ 8 (by kernel_rfl) (by kernel_rfl) (by kernel_rfl) (by kernel_rfl)) ?_
  intro W base args ds gs before hval0 hW hcnd _
  have hval : ∀ (j : Nat) t v, Tryz.f4.params[j]? = some t → args[j]? = some v → Value.okWide Tryz.prog W .any base t v := hval0
  have hW' := hW
  obtain ⟨p, q, hA0, hV, rfl, hfz, hnd⟩ := hW
  have hA : DataW.TrodAll enc Tryz.prog W 0 (fun _ => true) true Tryz.f4.params.toList args.toList ds p := hA0
  rw [Tryz.params4] at hA hval
  obtain ⟨v0, v1, d0, d1, p0, p1, rfl, rfl, rfl, h0, h1⟩ := trodAll_two hA
  obtain ⟨rfl, rfl⟩ := trodVars_none hV
  obtain ⟨a0, len0, cap0, rfl⟩ := okWide_slice Tryz.underlying22 (hval 0 22 v0 rfl rfl)
  obtain ⟨a1, len1, cap1, rfl⟩ := okWide_slice Tryz.underlying35 (hval 1 35 v1 rfl rfl)
  have k0 := h0
  have k1 := h1
  have lt0 : ∀ x ∈ p0, x.block < W.heap.size := by obtain ⟨m, hm⟩ := k0; exact DataW.trod_lt m _ _ _ hm
  have lt1 : ∀ x ∈ p1, x.block < W.heap.size := by obtain ⟨m, hm⟩ := k1; exact DataW.trod_lt m _ _ _ hm
  obtain ⟨l, rfl, hlc, hC⟩ := Row.strings_arg h0
  obtain ⟨ts, rfl, htc, hT⟩ := toks_arg h1
  clear hA0 hval0
  refine (Vw.TokenWrites_calls a0 cap0 l hlc a1 cap1 ts htc W hC hT).mono fun e W' ⟨he, bel⟩ => ?_
  subst he
  exact ⟨_, rfl, _, _, _, [], _, [], hW', trodAll_mk1 (shut_bool Tryz.underlying4 _), trodAll_mk2 (Below.trod Row.laidOut (by kernel_rfl) (of_decide_eq_true (by kernel_rfl)) k0 bel lt0) (Below.trod Row.laidOut (by kernel_rfl) (of_decide_eq_true (by kernel_rfl)) k1 bel lt1), rfl, bel.frame _, fun h => by cases h⟩

theorem over : Rows.tokenWritesRow.holds Tryz.pinned (OpenSpec.ofChange Rows.tokenWritesSpec) :=
  OpenClaim.holds_of_wide 4 Tryz.f4 rfl rfl rfl rfl rfl rfl rfl ⟨rfl, rfl, rfl, rfl, rfl⟩ rfl rfl rfl rfl rfl (by kernel_rfl) Tryz.func4 (by kernel_rfl)
    (of_decide_eq_true (by kernel_rfl)) (by unfold Func.isWrapper; first | (rw [if_pos (by decide +kernel)]; kernel_rfl) | (rw [if_neg (by decide +kernel)]; exact ⟨rfl, rfl⟩))
    (fun os started H enc _ => lifted os started H enc)
end Go.Proofs.YtmkfeanggmjhmaaGreat.tokenWrites
namespace Go.Proofs.YtmkfeanggmjhmaaGreat
theorem tokenWrites_holds : Rows.TokenWritesSaid := tokenWrites.over
end Go.Proofs.YtmkfeanggmjhmaaGreat
