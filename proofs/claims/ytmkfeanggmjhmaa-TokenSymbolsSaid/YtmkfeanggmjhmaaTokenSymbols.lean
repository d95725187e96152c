/- TokenSymbols holds of every input: whatever the text, the law returns true and the text reads as it did. -/
import Derived.Test.YtmkfeanggmjhmaaX5
import Derived.Test.YtmkfeanggmjhmaaRow
namespace Go.Proofs.Ytmkfeanggmjhmaa.tokenSymbols
open Go Go.RowKit Go.ChangeShapes Go.WideShapes Go.ChangeAt
open Go.ChangeMaps (open_string shut_string)
set_option linter.unusedVariables false

set_option maxRecDepth 100000 in
theorem lifted (os : Os) (started : os.Started) (H : Type) (enc : TypeId × Value → H) :
    ReturnsInHanded {} Try.checked os 5 .any (Rows.tokenSymbolsSpec.pre6 enc Try.prog Try.f5 Rows.tokenSymbolsRow.domain false) (Rows.tokenSymbolsSpec.post enc Try.prog Try.f5 false true false false) := by
  refine returnsInHanded_of_change (C := Try.checked) Row.own started (by kernel_rfl) Try.func5
    (ChangeSpec.witness6 (enc := enc) (C := Try.checked) false ⟨#[], #[.string ByteArray.empty], []⟩ 8 (by kernel_rfl) (by kernel_rfl) (by kernel_rfl) (by kernel_rfl)) ?_
  intro W base args ds gs before hval0 hW hcnd _
  have hval : ∀ (j : Nat) t v, Try.f5.params[j]? = some t → args[j]? = some v → Value.okWide Try.prog W .any base t v := hval0
  have hW' := hW
  obtain ⟨p, q, hA0, hV, rfl, hfz, hnd⟩ := hW
  have hA : DataW.TrodAll enc Try.prog W 0 (fun _ => true) true Try.f5.params.toList args.toList ds p := hA0
  rw [Try.params5] at hA hval
  obtain ⟨v1, d1, rfl, rfl, h1⟩ := trodAll_one hA
  obtain ⟨rfl, rfl⟩ := trodVars_none hV
  obtain ⟨s, rfl, rfl, rfl, y1⟩ := open_string Try.underlying9 (hval 0 9 v1 rfl rfl) h1
  clear hA0 hval0
  refine (X.TokenSymbols_calls s W).mono fun e W' ⟨he, bel⟩ => ?_
  subst he
  exact ⟨_, rfl, _, _, _, [], _, [], hW', trodAll_mk1 (shut_bool Try.underlying4 _), trodAll_mk1 (shut_string Try.underlying9 y1), rfl, bel.frame _, fun h => by cases h⟩

theorem over : Rows.tokenSymbolsRow.holds Try.pinned (OpenSpec.ofChange Rows.tokenSymbolsSpec) :=
  OpenClaim.holds_of_wide 5 Try.f5 rfl rfl rfl rfl rfl rfl rfl ⟨rfl, rfl, rfl, rfl, rfl⟩ rfl rfl rfl rfl rfl (by kernel_rfl) Try.func5 (by kernel_rfl)
    (of_decide_eq_true (by kernel_rfl)) (by unfold Func.isWrapper; first | (rw [if_pos (by decide +kernel)]; kernel_rfl) | (rw [if_neg (by decide +kernel)]; exact ⟨rfl, rfl⟩))
    (fun os started H enc _ => lifted os started H enc)
end Go.Proofs.Ytmkfeanggmjhmaa.tokenSymbols
namespace Go.Proofs.Ytmkfeanggmjhmaa
theorem tokenSymbols_holds : Rows.TokenSymbolsSaid := tokenSymbols.over
end Go.Proofs.Ytmkfeanggmjhmaa
