/- What strings.Replacer makes of a text: a string's signs escaped.  Pure; and what a table of replacements holds. -/
import Derived.Test.YtmkfeanggmjhmaaGreatRp2
namespace Go.Proofs.YtmkfeanggmjhmaaGreat.Rp
open Go Go.RowKit
set_option linter.unusedSimpArgs false
set_option linter.unusedVariables false

def spec (c : UInt8) : Option UInt8 := if c = 10 then some 110 else if c = 92 then some 92 else if c = 34 then some 34 else none
def esc (c : UInt8) : List UInt8 := match spec c with
  | some d => [92, d]
  | none => [c]
/-- a text in which a string's signs are escaped -/
def escL (s : List UInt8) : List UInt8 := s.flatMap esc
def cnt (s : List UInt8) : Nat := s.countP (fun c => (spec c).isSome)
theorem escL_len (s : List UInt8) : (escL s).length = s.length + cnt s := by
  induction s with
  | nil => rfl
  | cons c r ih =>
    unfold escL cnt at *
    rw [List.flatMap_cons, List.length_append, ih, List.countP_cons, List.length_cons]
    unfold esc
    cases spec c <;> simp <;> omega
theorem escL_same (s : List UInt8) (h : cnt s = 0) : escL s = s := by
  induction s with
  | nil => rfl
  | cons c r ih =>
    unfold cnt at h
    rw [List.countP_cons] at h
    have h1 : spec c = none := by
      cases hc : spec c with
      | none => rfl
      | some d => rw [hc] at h; simp at h
    unfold escL
    rw [List.flatMap_cons]
    have := ih (by unfold cnt; omega)
    unfold escL at this
    rw [this]
    unfold esc
    rw [h1]
    rfl
theorem cnt_split (s : List UInt8) : cnt s = s.count 10 + s.count 92 + s.count 34 := by
  induction s with
  | nil => rfl
  | cons c r ih =>
    unfold cnt at *
    rw [List.countP_cons, ih, List.count_cons, List.count_cons, List.count_cons]
    unfold spec
    by_cases h1 : c = 10
    · subst h1; simp; omega
    · by_cases h2 : c = 92
      · subst h2; simp; omega
      · by_cases h3 : c = 34
        · subst h3; simp; omega
        · simp [h1, h2, h3]
theorem cnt_take (s : List UInt8) (i : Nat) (h : i < s.length) : cnt (s.take (i + 1)) = cnt (s.take i) + (if (spec (s[i]'h)).isSome then 1 else 0) := by
  unfold cnt
  rw [List.take_add_one, List.getElem?_eq_getElem h, List.countP_append]
  simp [List.countP_cons]
theorem escL_take (s : List UInt8) (i : Nat) (h : i < s.length) : escL (s.take (i + 1)) = escL (s.take i) ++ esc (s[i]'h) := by
  unfold escL
  rw [List.take_add_one, List.getElem?_eq_getElem h, List.flatMap_append]
  simp
theorem cnt_le (s : List UInt8) : cnt s ≤ s.length := List.countP_le_length

def full : List (Nat × Nat) := [(10, 110), (92, 92), (34, 34)]
theorem tab_cell {B bb : Nat} {w : World} (T : Tab B bb full w) (c : UInt8) :
    match spec c with
    | none => w.cell? ⟨bb, c.toNat, none⟩ = some (.slice none 0 0)
    | some d => ∃ g cap, w.cell? ⟨bb, c.toNat, none⟩ = some (.slice (some ⟨g, 0, none⟩) 2 cap) ∧ w.cell? ⟨g, 0, none⟩ = some (.int .u8 92) ∧ w.cell? ⟨g, 1, none⟩ = some (.int .u8 (d.toNat : Int)) := by
  obtain ⟨PA, v, h1, h2, h3, h4⟩ := T
  have hc : c.toNat < 256 := c.toNat_lt
  have hcell : w.cell? ⟨bb, c.toNat, none⟩ = PA[c.toNat]? := by rw [Lib.cell_of_heap h1, Array.getElem?_push, if_neg (by omega)]
  rw [hcell]
  have key : ∀ d : UInt8, (c.toNat, d.toNat) ∈ full → (∀ d', (c.toNat, d') ∈ full → d' = d.toNat) → ∃ g cap, PA[c.toNat]? = some (.slice (some ⟨g, 0, none⟩) 2 cap) ∧ w.cell? ⟨g, 0, none⟩ = some (.int .u8 92) ∧ w.cell? ⟨g, 1, none⟩ = some (.int .u8 (d.toNat : Int)) := by
    intro d hm hu
    rcases h4 c.toNat hc with ⟨d', hm', g, cap, cur, fr, k1, k2, k3, k4, k5⟩ | ⟨k1, k2⟩
    · have := hu d' hm'
      subst this
      exact ⟨g, cap, k1, by rw [Lib.cell_of_heap k3]; exact k4, by rw [Lib.cell_of_heap k3]; exact k5⟩
    · exact absurd hm (k1 _)
  by_cases e1 : c = 10
  · subst e1
    exact key 110 (by decide) (by intro d' h; simp [full] at h; exact h)
  · by_cases e2 : c = 92
    · subst e2
      exact key 92 (by decide) (by intro d' h; simp [full] at h; exact h)
    · by_cases e3 : c = 34
      · subst e3
        exact key 34 (by decide) (by intro d' h; simp [full] at h; exact h)
      · have hs : spec c = none := by unfold spec; rw [if_neg e1, if_neg e2, if_neg e3]
        rw [hs]
        rcases h4 c.toNat hc with ⟨d', hm', _⟩ | ⟨k1, k2⟩
        · exfalso
          simp only [full, List.mem_cons, Prod.mk.injEq, List.not_mem_nil, or_false] at hm'
          rcases hm' with ⟨h, _⟩ | ⟨h, _⟩ | ⟨h, _⟩
          · exact e1 (UInt8.toNat_inj.1 h)
          · exact e2 (UInt8.toNat_inj.1 h)
          · exact e3 (UInt8.toNat_inj.1 h)
        · exact k2
theorem tab_strs {B bb : Nat} {w : World} (T : Tab B bb full w) : ∃ h cap, w.cell? ⟨bb, 256, none⟩ = some (.slice (some ⟨h, 0, none⟩) 3 cap) ∧ w.cell? ⟨h, 0, none⟩ = some (.string ⟨#[10]⟩) ∧ w.cell? ⟨h, 1, none⟩ = some (.string ⟨#[92]⟩) ∧ w.cell? ⟨h, 2, none⟩ = some (.string ⟨#[34]⟩) := by
  obtain ⟨PA, v, h1, h2, h3, h4⟩ := T
  obtain ⟨_, h3⟩ := h3
  rcases h3 with ⟨_, hn⟩ | ⟨g, cap, cur, rfl, hg, hh, hc, hm, hs, ht⟩
  · simp [full] at hn
  · refine ⟨g, cap, by rw [Lib.cell_of_heap h1, Array.getElem?_push, if_pos h2.symm]; rfl, ?_, ?_, ?_⟩
    all_goals
      rw [Lib.cell_of_heap hh, ← Array.getElem?_toList]
      have e : cur.toList.take 3 = signs3 full := ht
      have hi : ∀ j, j < 3 → cur.toList[j]? = (signs3 full)[j]? := fun j hj => by rw [← e, List.getElem?_take, if_pos hj]
      rw [hi _ (by decide)]
      rfl
theorem tab_below {B bb : Nat} {done : List (Nat × Nat)} {w w' : World} (T : Tab B bb done w) (h : Below w.heap.size w w') : Tab B bb done w' := by
  obtain ⟨PA, v, h1, h2, h3, h4⟩ := T
  refine ⟨PA, v, by rw [h.block _ (lt_heap h1)]; exact h1, h2, own_keep h3 (fun k cur hk => h.block k (lt_heap hk)), fun c hc => ?_⟩
  rcases h4 c hc with ⟨d, hm, g, cap, cur, fr, k1, k2, k3, k4⟩ | h
  · exact .inl ⟨d, hm, g, cap, cur, fr, k1, k2, by rw [h.block _ (lt_heap k3)]; exact k3, k4⟩
  · exact .inr h

/-- a buffer of n bytes, of which the first ones are written -/
def bufC (done : List UInt8) (n : Nat) : Array Value := (Lib.byteCells done ++ List.replicate (n - done.length) (Value.int .u8 0)).toArray
theorem bufC_zero (n : Nat) : bufC [] n = Array.replicate n (.int .u8 0) := by
  apply Array.ext'
  rw [Array.toList_replicate]
  simp [bufC, Lib.byteCells]
theorem bufC_put (done : List UInt8) (n : Nat) (c : UInt8) (h : done.length < n) : (bufC done n).setIfInBounds done.length (.int .u8 (c.toNat : Int)) = bufC (done ++ [c]) n := by
  apply Array.ext'
  rw [Array.toList_setIfInBounds]
  obtain ⟨m, hm⟩ : ∃ m, n - done.length = m + 1 := ⟨n - done.length - 1, by omega⟩
  have e2 : n - (done ++ [c]).length = m := by rw [List.length_append, List.length_cons, List.length_nil]; omega
  simp only [bufC, hm, e2]
  rw [List.set_append_right _ _ (by rw [Lib.byteCells_length]; exact Nat.le_refl _), Lib.byteCells_length, Nat.sub_self, List.replicate_succ, List.set_cons_zero]
  simp [Lib.byteCells]
theorem bufC_full (done : List UInt8) (n : Nat) (h : done.length = n) : bufC done n = (Lib.byteCells done).toArray := by
  unfold bufC
  rw [show n - done.length = 0 by omega, List.replicate_zero, List.append_nil]
theorem bufC_size (done : List UInt8) (n : Nat) (h : done.length ≤ n) : (bufC done n).size = n := by
  simp only [bufC, List.size_toArray, List.length_append, Lib.byteCells_length, List.length_replicate]; omega
theorem made_bytes (n : Nat) : madeCells (Value.int .u8 0).cells n = Array.replicate n (.int .u8 0) := by
  unfold madeCells
  apply Array.ext'
  rw [Array.toList_map, Array.toList_replicate, List.eq_replicate_iff]
  refine ⟨by simp, fun b hb => ?_⟩
  obtain ⟨x, _, rfl⟩ := List.mem_map.1 hb
  have e : x % (Value.int .u8 0).cells.size = 0 := Nat.mod_one x
  rw [e]
  rfl
end Go.Proofs.YtmkfeanggmjhmaaGreat.Rp
