/- What functions over fuel give in the end; numbers that fit in 64 bits.  It names no program. -/
import Derived.Test.YtggfjfmgclcnlaaWMore
import Derived.WalkKit
namespace Go.Proofs.Ytggfjfmgclcnlaa.E
set_option linter.unusedSimpArgs false
set_option linter.unusedVariables false
open Go Go.RowKit

/-- with enough fuel g gives r -/
def Evt {α : Type} (g : Nat → Option α) (r : α) : Prop := ∃ k0, ∀ k, k0 ≤ k → g k = some r
section
variable {α β : Type} {g h : Nat → Option α} {r : α}
theorem Evt.const (r : α) : Evt (fun _ => some r) r := ⟨0, fun _ _ => rfl⟩
theorem Evt.of (o : Option α) (h : o = some r) : Evt (fun _ => o) r := ⟨0, fun _ _ => h⟩
theorem Evt.congr (hg : Evt g r) (h1 : ∀ k, h k = g k) : Evt h r := by
  obtain ⟨k0, h0⟩ := hg
  exact ⟨k0, fun k hk => (h1 k).trans (h0 k hk)⟩
/-- a step of fuel -/
theorem Evt.succ (h1 : ∀ k, h (k + 1) = g k) (hg : Evt g r) : Evt h r := by
  obtain ⟨k0, h0⟩ := hg
  refine ⟨k0 + 1, fun k hk => ?_⟩
  obtain ⟨k, rfl⟩ : ∃ j, k = j + 1 := ⟨k - 1, by omega⟩
  rw [h1, h0 k (by omega)]
theorem Evt.bind {s : β} {f : Nat → α → Option β} (hg : Evt g r) (hf : Evt (fun k => f k r) s) : Evt (fun k => (g k).bind (f k)) s := by
  obtain ⟨k0, h0⟩ := hg
  obtain ⟨k1, h1⟩ := hf
  refine ⟨max k0 k1, fun k hk => ?_⟩
  show (g k).bind (f k) = some s
  rw [h0 k (by omega), Option.bind_some]
  exact h1 k (by omega)
theorem Evt.tt {c : Prop} [Decidable c] (hc : c) (hg : Evt g r) : Evt (fun k => if c then g k else h k) r := hg.congr (fun k => if_pos hc)
theorem Evt.ff {c : Prop} [Decidable c] (hc : ¬ c) (hg : Evt h r) : Evt (fun k => if c then g k else h k) r := hg.congr (fun k => if_neg hc)
theorem Evt.at_ (hg : Evt g r) : ∃ k, g k = some r := by
  obtain ⟨k0, h0⟩ := hg
  exact ⟨k0, h0 k0 (Nat.le_refl _)⟩
theorem Evt.two {s : β} {f : Nat → Option β} (hg : Evt g r) (hf : Evt f s) : ∃ k, g k = some r ∧ f k = some s := by
  obtain ⟨k0, h0⟩ := hg
  obtain ⟨k1, h1⟩ := hf
  exact ⟨max k0 k1, h0 _ (by omega), h1 _ (by omega)⟩
theorem Evt.eq {s : α} (hg : Evt g r) (e : r = s) : Evt g s := e ▸ hg
end
theorem w64 {x : Int} (h1 : -9223372036854775808 ≤ x) (h2 : x ≤ 9223372036854775807) : wrap64 x = x := by
  unfold wrap64
  omega
end Go.Proofs.Ytggfjfmgclcnlaa.E
