/- A set of texts kept in a map[string]bool. -/
import Derived.Test.YthfomoigaoffgaaGreatK
import Derived.Maps.OwnOps
import Derived.Maps.OwnSet
import Derived.Maps.Views
import Derived.Test.YthfomoigaoffgaaGreatProg
import Derived.KernelRfl
import Derived.Carry
namespace Go.Proofs.YthfomoigaoffgaaGreat.K
set_option linter.unusedSimpArgs false
set_option linter.unusedVariables false
open Go Go.RowKit Go.Maps Go.WideMaps Go.WideElems
set_option linter.unusedVariables false

theorem plainElem_bool_inv {H : Type} {P : Program} {e : TypeId} (he : P.underlying e = some .bool) {v : Value} {z : DataW H × List MemPlace} (h : plainElem P e v = some z) : ∃ a, v = .bool a ∧ z = (.lit (.bool a), []) := by
  unfold plainElem at h
  rw [he] at h
  cases v <;> simp at h
  exact ⟨_, rfl, h.symm⟩

/-- block b is a map of at most n entries; it holds true at the texts of which p says so, and nothing else that is true -/
def KwSet (w : World) (b n : Nat) (p : List UInt8 → Bool) : Prop :=
  ∃ D : DataW Unit, w.ownsMap Tryz.prog 9 (plainElem Tryz.prog 4) b n D ∧ IsMap D ∧ ∀ l, D.atKey (.string l) (.lit (.bool false)) = .lit (.bool (p l))

theorem KwSet.made (w : World) : KwSet (w.alloc (.map #[] 0)) w.heap.size 0 (fun _ => false) :=
  ⟨.map [], World.ownsMap_made w _ _ _, isMap_empty, fun l => rfl⟩
theorem KwSet.lt {w : World} {b n : Nat} {p : List UInt8 → Bool} (h : KwSet w b n p) : b < w.heap.size := by
  obtain ⟨D, h, _⟩ := h
  exact h.lt
theorem KwSet.same {w w' : World} {b n : Nat} {p : List UInt8 → Bool} (h : KwSet w b n p) (hb : w'.heap[b]? = w.heap[b]?) : KwSet w' b n p := by
  obtain ⟨D, ⟨es, clock, h1, r⟩, h2⟩ := h
  exact ⟨D, ⟨es, clock, hb.trans h1, r⟩, h2⟩
theorem KwSet.chg {T : Nat → Prop} {w w' : World} {b n : Nat} {p : List UInt8 → Bool} (h : KwSet w b n p) (hc : Chg T w w') (hn : ¬ T b) : KwSet w' b n p := h.same (hc.block b h.lt hn)
theorem KwSet.below {m : Nat} {w w' : World} {b n : Nat} {p : List UInt8 → Bool} (h : KwSet w b n p) (hc : Below m w w') (hn : b < m) : KwSet w' b n p := h.same (hc.block b hn)
theorem KwSet.lookup {w : World} {b n : Nat} {p : List UInt8 → Bool} (h : KwSet w b n p) (s : ByteArray) (hs : s.size ≤ maxLen) :
    (Instr.lookup 86 (.map (some b)) (.string s) false).run Tryz.prog w = .ok (.bool (p s.data.toList)) w := by
  obtain ⟨D, h1, h2, h3⟩ := h
  obtain ⟨v, ps, hrun, hv⟩ := h1.lookup (string_keyed Tryz.underlying9) Tryz.underlying86 (Tryz.zeroValue4 w) (plainElem_bool Tryz.underlying4 false) (keyOf_string_mk Tryz.underlying9 hs)
  rw [h3] at hv
  obtain ⟨a, rfl, ha⟩ := plainElem_bool_inv Tryz.underlying4 hv
  simp only [Prod.mk.injEq, DataW.lit.injEq, Lit.bool.injEq] at ha
  rw [hrun, ← ha.1]
theorem KwSet.update {w : World} {b n : Nat} {p : List UInt8 → Bool} (h : KwSet w b n p) (hn : n < maxLen) (s : ByteArray) (hs : s.size ≤ maxLen) :
    ∃ w', (Instr.mapUpdate 86 (.map (some b)) (.string s) (.bool true)).run Tryz.prog w = .ok () w' ∧ KwSet w' b (n + 1) (fun l => p l || l == s.data.toList) ∧ w.grownBy w' (some b) := by
  obtain ⟨D, h1, h2, h3⟩ := h
  obtain ⟨w', hrun, ho, hg⟩ := h1.update (string_keyed Tryz.underlying9) Tryz.underlying86 hn (keyOf_string_mk Tryz.underlying9 hs) (plainElem_bool Tryz.underlying4 true)
  refine ⟨w', hrun, ⟨_, ho, h2.put _ _, fun l => ?_⟩, hg⟩
  by_cases e : l = s.data.toList
  · subst e
    rw [atKey_put_same h2 (by simp [WideAt.IsKeyLit])]
    simp
  · rw [atKey_put_other (by simpa using e), h3]
    simp [e]
end Go.Proofs.YthfomoigaoffgaaGreat.K
