/- Rows of tokens, taken apart. -/
import Derived.Test.YtmkfeanggmjhmaaGreatSb
namespace Go.Proofs.YtmkfeanggmjhmaaGreat.Rw
open Go Go.RowKit Go.Shelf Go.Proofs.YtmkfeanggmjhmaaGreatW.PrintWords Go.Proofs.YtmkfeanggmjhmaaGreatW.PrintLast Go.Proofs.YtmkfeanggmjhmaaGreatW.PrintMore
open Go.Proofs.YtmkfeanggmjhmaaGreat.M Go.Proofs.YtmkfeanggmjhmaaGreat.K Go.Proofs.YtmkfeanggmjhmaaGreat.S
set_option linter.unusedSimpArgs false
set_option linter.unusedVariables false

theorem flat_len (xs : List Tok) : (xs.flatMap tokCells).length = xs.length * 3 := by
  induction xs with
  | nil => rfl
  | cons x r ih => rw [List.flatMap_cons, List.length_append, ih, List.length_cons]; simp only [tokCells, List.length_cons, List.length_nil]; omega
theorem flat_one (xs : List Tok) : ∀ u ∈ xs.flatMap tokCells, u.oneCell' = true := by
  intro u hu
  obtain ⟨x, _, h⟩ := List.mem_flatMap.1 hu
  simp only [tokCells, List.mem_cons, List.not_mem_nil, or_false] at h
  rcases h with rfl | rfl | rfl <;> rfl
theorem flat_at : ∀ (xs : List Tok) (j : Nat) (x : Tok), xs[j]? = some x → ∀ i, i < 3 → (xs.flatMap tokCells)[j * 3 + i]? = (tokCells x)[i]?
  | [], j, x, h, i, hi => by simp at h
  | y :: r, 0, x, h, i, hi => by
    simp at h
    subst h
    rw [List.flatMap_cons, List.getElem?_append_left (by simp only [tokCells, List.length_cons, List.length_nil]; omega)]
    rw [Nat.zero_mul, Nat.zero_add]
  | y :: r, j + 1, x, h, i, hi => by
    rw [List.flatMap_cons, List.getElem?_append_right (by simp only [tokCells, List.length_cons, List.length_nil]; omega)]
    rw [show (j + 1) * 3 + i - (tokCells y).length = j * 3 + i by simp only [tokCells, List.length_cons, List.length_nil]; omega]
    exact flat_at r j x (by simpa using h) i hi
/-- a row of tokens, taken apart -/
theorem row_cases {w : World} {base : Nat} {v : Value} {xs : List Tok} (h : TokRow w base v xs) :
    (v = .slice none 0 0 ∧ xs = []) ∨ ∃ g cap tail, v = .slice (some ⟨g, 0, none⟩) xs.length cap ∧ base ≤ g ∧ w.heap[g]? = some (.cells (xs.flatMap tokCells ++ tail).toArray 30 (0, 0)) ∧ xs.length ≤ cap ∧ cap ≤ maxLen ∧ xs.length * 3 + tail.length = cap * 3 := by
  obtain ⟨h1, h2⟩ := h
  rcases h2 with ⟨hv, hn⟩ | ⟨g, cap, cur, hv, hg, hh, hc, hm, hs, ht⟩
  · exact .inl ⟨hv, List.eq_nil_of_length_eq_zero hn⟩
  · refine .inr ⟨g, cap, cur.toList.drop (xs.length * 3), hv, hg, ?_, hc, hm, ?_⟩
    · rw [← ht, List.take_append_drop]; exact hh
    · have e : cur.toList.length = cap * 3 := hs
      rw [List.length_drop, e]
      have := Nat.mul_le_mul_right 3 hc
      omega
theorem row_make {w : World} {base g cap : Nat} {xs : List Tok} {tail : List Value} (hg : base ≤ g) (hh : w.heap[g]? = some (.cells (xs.flatMap tokCells ++ tail).toArray 30 (0, 0))) (hc : xs.length ≤ cap) (hm : cap ≤ maxLen)
    (hs : xs.length * 3 + tail.length = cap * 3) : TokRow w base (.slice (some ⟨g, 0, none⟩) xs.length cap) xs :=
  ⟨flat_len xs, .inr ⟨g, cap, _, rfl, hg, hh, hc, hm, by simp only [List.size_toArray, List.length_append, flat_len]; exact hs, by rw [List.take_append_of_le_length (by rw [flat_len]; exact Nat.le_refl _)]; rw [← flat_len, List.take_length]⟩⟩
theorem row_cells {w : World} {g : Nat} {xs : List Tok} {tail : List Value} (hh : w.heap[g]? = some (.cells (xs.flatMap tokCells ++ tail).toArray 30 (0, 0))) :
    ∀ j u, (xs.flatMap tokCells)[j]? = some u → w.cell? ((⟨g, 0, none⟩ : Addr).add j) = some u := by
  intro j u hj
  have hadd : (⟨g, 0, none⟩ : Addr).add j = ⟨g, j, none⟩ := by unfold Addr.add; split <;> simp_all
  rw [hadd, Lib.cell_of_heap hh, List.getElem?_toArray, List.getElem?_append_left (List.getElem?_eq_some_iff.1 hj).1]
  exact hj
end Go.Proofs.YtmkfeanggmjhmaaGreat.Rw
