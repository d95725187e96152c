/- What several laws of this chapter lean on: right clauses, the lengths, Hold of the reference, the proof that Solve finds, rows of Booleans. -/
import Derived.Test.YtggfjfmgclcnlaaVk
import Derived.BigQuiet
namespace Go.Proofs.Ytggfjfmgclcnlaa.Zb
open Go Go.RowKit Go.Shelf Go.Proofs.Ytggfjfmgclcnlaa.K Go.Proofs.Ytggfjfmgclcnlaa.G Go.Proofs.Ytggfjfmgclcnlaa.Z
set_option linter.unusedSimpArgs false
set_option linter.unusedVariables false

theorem solve_right {l : List Cls} {fuel : Int} (h : (solveB l fuel).err = 0) : checkL l = 0 := by
  unfold solveB at h
  by_cases h0 : checkL l = 0
  · exact h0
  · rw [if_pos h0] at h
    exact h
theorem small_lens {l : List Cls} {np most : Nat} (h : smallB l np most = true) : l.length ≤ most ∧ ∀ c ∈ l, c.length ≤ 70 := by
  unfold smallB at h
  simp only [Bool.and_eq_true, decide_eq_true_eq, Bool.not_eq_true'] at h
  refine ⟨h.1.1, fun c hc => ?_⟩
  have := List.any_eq_false.1 h.2 c hc
  unfold longC at this
  simp only [decide_eq_true_eq] at this
  omega
theorem abs_calls (x : Int) (w : World) (h : -1000000000 ≤ x) (h2 : x ≤ 1000000000) : Calls Try.prog 33 #[.int .i64 x] w fun e w' => e = .returned (.int .i64 ((x.natAbs : Nat) : Int)) ∧ w = w' := by
  by_cases hx : x < 0
  · rw [show ((x.natAbs : Nat) : Int) = -x by omega]
    go_enter Try.func33, Try.ntmps33
    go_wp2
    go_ret
    exact ⟨rfl, rfl⟩
  · rw [show ((x.natAbs : Nat) : Int) = x by omega]
    go_enter Try.func33, Try.ntmps33
    go_wp2
    go_ret
    exact ⟨rfl, rfl⟩
theorem lit_small {c : Cls} (h : rightC c = true) : ∀ x ∈ c, -1000000000 ≤ x ∧ x ≤ 1000000000 := fun x hx => by
  have := ((right_iff.1 h).1 x hx).2
  omega
end Go.Proofs.Ytggfjfmgclcnlaa.Zb
