/- A row of strings that comes in as an argument, read. -/
import Derived.Test.YtmkfeanggmjhmaaGreatWMore
import Derived.Test.YtmkfeanggmjhmaaGreatRows
import Derived.WalkKit
import Derived.ProofKit
import Derived.OpenShut
import Derived.ShutString
import Derived.ChangeOld
import Derived.Below
import Derived.SizedLaws
import Derived.SliceStrings
namespace Go.Proofs.YtmkfeanggmjhmaaGreat.Row
set_option linter.unusedSimpArgs false
set_option linter.unusedVariables false
open Go Go.RowKit Go.ChangeShapes Go.WideShapes Go.ChangeAt Go.Proofs.YtmkfeanggmjhmaaGreatW.PrintWords

theorem own : ownKnob Tryz.prog.godebug = none := by kernel_rfl
theorem laidOut : laidOutB Tryz.prog = true := by kernel_rfl

theorem strings_nil (w : World) : Kd.C Kd.string w none 0 [] := ⟨rfl, by decide, fun h => absurd h (by decide)⟩
theorem strings_row {w : World} {a : Addr} {len cap : Nat} {ss : List ByteArray} (hl : len ≤ cap) (hm : cap ≤ maxLen) (hz : ss.length = cap) (hc : ∀ i, i < ss.length → w.cell? (a.add i) = some (.string (ss.getD i ByteArray.empty))) :
    Kd.C Kd.string w (some a) len (ss.take len) := by
  refine ⟨by rw [List.length_take]; omega, by unfold maxLen at hm; omega, fun h0 => ⟨a, rfl, fun j p hj => ?_⟩⟩
  have hjl : j < (ss.take len).length := (List.getElem?_eq_some_iff.1 hj).1
  rw [List.length_take] at hjl
  have hp : ss.getD j ByteArray.empty = p := by
    rw [List.getElem?_take_of_lt (by omega)] at hj
    rw [List.getD_eq_getElem?_getD, hj]
    rfl
  refine ⟨[.string p], rfl, rfl, fun i u hu => ?_⟩
  have hi : i < 1 := (List.getElem?_eq_some_iff.1 hu).1
  obtain rfl : i = 0 := by omega
  simp only [List.getElem?_cons_zero, Option.some.injEq] at hu
  subst hu
  have e : Kd.string.sz = 1 := rfl
  rw [e, Nat.mul_one, Nat.add_zero, hc j (by omega), hp]

/-- an argument of type []string -/
theorem strings_arg {H : Type} {enc : TypeId × Value → H} {W : World} {held : Bool} {A : Option Addr} {len cap : Nat} {d : DataW H} {p : List MemPlace}
    (h : DataW.Trod enc Tryz.prog W 0 (fun _ => true) held 22 (.slice A len cap) d p) : ∃ l : List ByteArray, l.length = len ∧ len ≤ cap ∧ Kd.C Kd.string W A l.length l := by
  obtain ⟨fuel, hf⟩ := h
  rcases open_strings Tryz.underlying22 Tryz.underlying9 (by kernel_rfl) hf with ⟨hcs, _⟩ | ⟨a, l, c, ss, hcs, _, hl, hm, hz, _, hcell, _⟩
  · simp [Value.cells] at hcs
    obtain ⟨rfl, rfl, rfl⟩ := hcs
    exact ⟨[], rfl, Nat.le_refl _, strings_nil W⟩
  · simp [Value.cells] at hcs
    obtain ⟨rfl, rfl, rfl⟩ := hcs
    have hlen : (ss.take len).length = len := by rw [List.length_take]; simp at hz; omega
    refine ⟨ss.take len, hlen, hl, ?_⟩
    rw [hlen]
    exact strings_row hl hm (by simpa using hz) hcell
end Go.Proofs.YtmkfeanggmjhmaaGreat.Row
