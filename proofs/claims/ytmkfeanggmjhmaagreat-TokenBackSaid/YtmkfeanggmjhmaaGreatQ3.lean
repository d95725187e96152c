/- What a scan returns: how many tokens, where they stand, which errors.  It names no program. -/
import Derived.Test.YtmkfeanggmjhmaaGreatQ2
namespace Go.Proofs.YtmkfeanggmjhmaaGreat.Q
set_option linter.unusedSimpArgs false
set_option linter.unusedVariables false
open Go Go.RowKit Go.Proofs.YtmkfeanggmjhmaaGreatW.PrintWords Go.Proofs.YtmkfeanggmjhmaaGreat.M

theorem one_err {kw : List UInt8 → Bool} {s : ByteArray} {i : Nat} {c : Int} (h : oneE kw s i = .error c) : c = 160 ∨ c = 161 := by
  unfold oneE at h
  split at h
  · split at h
    · cases h
    · cases h; exact .inr rfl
  · split at h
    · split at h
      · cases h
      · cases h; exact .inr rfl
    · split at h
      · cases h; exact .inl rfl
      · cases h
theorem goon_bounds (kw : List UInt8 → Bool) (s : ByteArray) : ∀ d i pre, s.size - i ≤ d → i ≤ s.size →
    (∃ more : List Tok, (goon kw s i pre).1 = pre ++ more ∧ more.length ≤ s.size - i ∧ ∀ t ∈ more, t.at_ < s.size) ∧ ∀ q c, (goon kw s i pre).2 = some (q, c) → q ≤ s.size ∧ (c = 160 ∨ c = 161 ∨ c = 162) := by
  intro d
  induction d using Nat.strongRecOn with
  | _ d ih =>
    intro i pre hd hi
    cases hb : blanksE s i with
    | error p =>
      have e : goon kw s i pre = (pre, some (p, 162)) := by unfold goon; rw [hb]
      rw [e]
      refine ⟨⟨[], by simp, by simp, by simp⟩, fun q c h => ?_⟩
      cases h
      exact ⟨(blanksE_le' hi hb).2, .inr (.inr rfl)⟩
    | ok j =>
      have hj := blanksE_le hi hb
      have e : goon kw s i pre = scanFrom kw s j pre := by unfold goon; rw [hb]
      rw [e]
      by_cases hlt : j < s.size
      · rw [scanFrom_goon kw s j pre hlt]
        cases ho : oneE kw s j with
        | error c0 =>
          refine ⟨⟨[], by simp, by simp, by simp⟩, fun q c h => ?_⟩
          cases h
          rcases one_err ho with h | h
          · exact ⟨hj.2, .inl h⟩
          · exact ⟨hj.2, .inr (.inl h)⟩
        | ok r =>
          obtain ⟨⟨k, t⟩, en⟩ := r
          have h1 := oneE_lt hlt ho
          simp only at h1 ⊢
          obtain ⟨⟨more, h2, h3, h4⟩, h5⟩ := ih (s.size - en) (by omega) en (pre ++ [⟨k, t, j⟩]) (Nat.le_refl _) h1.2
          refine ⟨⟨⟨k, t, j⟩ :: more, by rw [h2]; simp, by simp only [List.length_cons]; omega, fun u hu => ?_⟩, h5⟩
          rcases List.mem_cons.1 hu with rfl | hu
          · exact hlt
          · exact h4 u hu
      · rw [scanFrom_end kw s j pre (by omega)]
        exact ⟨⟨[], by simp, by simp, by simp⟩, fun q c h => by cases h⟩
theorem scan_bounds (kw : List UInt8 → Bool) (s : ByteArray) : (scanE kw s).1.length ≤ s.size ∧ (∀ t ∈ (scanE kw s).1, t.at_ < s.size) ∧ ∀ q c, (scanE kw s).2 = some (q, c) → q ≤ s.size ∧ (c = 160 ∨ c = 161 ∨ c = 162) := by
  obtain ⟨⟨more, h1, h2, h3⟩, h4⟩ := goon_bounds kw s _ 0 [] (Nat.le_refl _) (Nat.zero_le _)
  rw [scan_goon, h1, List.nil_append]
  exact ⟨by omega, h3, h4⟩
end Go.Proofs.YtmkfeanggmjhmaaGreat.Q
