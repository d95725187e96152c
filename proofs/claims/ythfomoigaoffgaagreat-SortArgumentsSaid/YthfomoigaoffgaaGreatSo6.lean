/- A row of strings sorted and compacted: the set of its elements, ascending. -/
import Derived.Test.YthfomoigaoffgaaGreatDf
import Derived.Test.YthfomoigaoffgaaGreatOa
import Derived.Test.YthfomoigaoffgaaGreatShelf
namespace Go.Proofs.YthfomoigaoffgaaGreat.So
open Go Go.RowKit Go.Sort Go.Lib Go.Proofs.YthfomoigaoffgaaGreat.K Go.Proofs.YthfomoigaoffgaaGreat.G Go.Proofs.YthfomoigaoffgaaGreat.Ix Go.Proofs.YthfomoigaoffgaaGreat.O
set_option linter.unusedSimpArgs false
set_option linter.unusedVariables false

def bl (x : ByteArray) : List UInt8 := x.data.toList
theorem bl_inj {a b : ByteArray} (h : bl a = bl b) : a = b := ByteArray.ext (Array.ext' h)
def lb (l : List UInt8) : ByteArray := ⟨l.toArray⟩
theorem lb_bl (x : ByteArray) : lb (bl x) = x := ByteArray.ext (by simp [lb, bl])
theorem bl_lb (l : List UInt8) : bl (lb l) = l := by simp [lb, bl]
theorem encStr_bl (x : ByteArray) : encStr (bl x) = .string x := by simp [encStr, bl]

/-- what slices.Compact keeps of the first m places of an ascending row -/
theorem compact_upto (d : Array (List UInt8)) (hs : ∀ i j, i < j → j < d.size → Op.bytesLess d[j]! d[i]! = false) : ∀ m, m ≤ d.size →
    (compactUpTo d m).Pairwise (fun a b => Op.bytesLess a b = true) ∧ (∀ x, x ∈ compactUpTo d m ↔ ∃ i, i < m ∧ d[i]! = x) ∧ ∀ x ∈ compactUpTo d m, ∀ i, i + 1 = m → x = d[i]! ∨ Op.bytesLess x d[i]! = true := by
  intro m
  induction m with
  | zero => intro _; exact ⟨List.Pairwise.nil, fun x => ⟨fun h => by simp [compactUpTo] at h, fun ⟨i, hi, _⟩ => absurd hi (Nat.not_lt_zero _)⟩, fun x hx => by simp [compactUpTo] at hx⟩
  | succ m ih =>
    intro hm
    obtain ⟨h1, h2, h3⟩ := ih (by omega)
    rw [compactUpTo_succ]
    cases hk : keeps d m with
    | true =>
      rw [if_pos rfl]
      have hlt : ∀ x ∈ compactUpTo d m, Op.bytesLess x d[m]! = true := by
        intro x hx
        have hm0 : m ≠ 0 := by rintro rfl; simp [compactUpTo] at hx
        have hne : d[m]! ≠ d[m - 1]! := by
          unfold keeps at hk
          rcases of_decide_eq_true hk with h | h
          · exact absurd h hm0
          · exact h
        have hle := hs (m - 1) m (by omega) (by omega)
        have hl : Op.bytesLess d[m - 1]! d[m]! = true := by
          cases hq : Op.bytesLess d[m - 1]! d[m]! with
          | true => rfl
          | false => exact absurd (bl_total _ _ hle hq) hne
        rcases h3 x hx (m - 1) (by omega) with rfl | h
        · exact hl
        · exact bl_trans _ _ _ h hl
      refine ⟨List.pairwise_append.2 ⟨h1, List.pairwise_singleton .., fun x hx y hy => by rw [List.mem_singleton.1 hy]; exact hlt x hx⟩, fun x => ?_, fun x hx i hi => ?_⟩
      · rw [List.mem_append, List.mem_singleton, h2]
        constructor
        · rintro (⟨i, hi, e⟩ | e)
          · exact ⟨i, by omega, e⟩
          · exact ⟨m, by omega, e.symm⟩
        · rintro ⟨i, hi, e⟩
          by_cases him : i = m
          · subst him; exact .inr e.symm
          · exact .inl ⟨i, by omega, e⟩
      · obtain rfl : i = m := by omega
        rcases List.mem_append.1 hx with hx | hx
        · exact .inr (hlt x hx)
        · exact .inl (List.mem_singleton.1 hx)
    | false =>
      rw [if_neg (by decide), List.append_nil]
      have hm0 : m ≠ 0 := by rintro rfl; simp [keeps] at hk
      have heq : d[m]! = d[m - 1]! := by
        unfold keeps at hk
        have := of_decide_eq_false hk
        exact Decidable.byContradiction fun h => this (.inr h)
      refine ⟨h1, fun x => ?_, fun x hx i hi => ?_⟩
      · rw [h2]
        constructor
        · rintro ⟨i, hi, e⟩; exact ⟨i, by omega, e⟩
        · rintro ⟨i, hi, e⟩
          by_cases him : i = m
          · subst him; exact ⟨i - 1, by omega, by rw [← heq]; exact e⟩
          · exact ⟨i, by omega, e⟩
      · obtain rfl : i = m := by omega
        rw [heq]
        exact h3 x hx (i - 1) (by omega)
/-- sorted, then compacted: the set -/
theorem compact_set {s l : List ByteArray} (hp : l.Perm s) (hs : l.Pairwise (fun a b => less b a = false)) : (compact (l.map bl)).map lb = setOf s := by
  have hget : ∀ i (h : i < l.length), (l.map bl).toArray[i]! = bl (l[i]'h) := fun i h => by
    rw [getElem!_pos _ _ (by simpa using h)]
    simp
  have hlen : (l.map bl).toArray.size = l.length := by simp
  obtain ⟨h1, h2, _⟩ := compact_upto (l.map bl).toArray (fun i j hij hj => by
    rw [hlen] at hj
    rw [hget i (by omega), hget j hj]
    exact List.pairwise_iff_getElem.1 hs i j (by omega) hj hij) l.length (by rw [hlen]; exact Nat.le_refl _)
  have hc : compact (l.map bl) = compactUpTo (l.map bl).toArray l.length := by unfold compact; rw [List.length_map]
  refine set_ext ?_ (fun x => ?_)
  · unfold Asc
    rw [hc, List.pairwise_map]
    refine h1.imp (fun {a b} h => ?_)
    show Op.bytesLess (bl (lb a)) (bl (lb b)) = true
    rw [bl_lb, bl_lb]
    exact h
  · rw [hc, List.mem_map, ← hp.mem_iff]
    constructor
    · rintro ⟨a, ha, rfl⟩
      obtain ⟨i, hi, e⟩ := (h2 a).1 ha
      rw [hget i hi] at e
      rw [← e, lb_bl]
      exact List.getElem_mem hi
    · intro hx
      obtain ⟨i, hi, rfl⟩ := List.mem_iff_getElem.1 hx
      exact ⟨bl l[i], (h2 _).2 ⟨i, hi, hget i hi⟩, lb_bl _⟩

/-! ### a row of one's own, in the words of the sort -/
theorem holds_rowS {w : World} {g o : Nat} {l : List ByteArray} (h : RowS w g o l) (hf : ∀ j, j < l.length → w.frozen? ⟨g, o + j, none⟩ = false) : Holds Value.string w g o l.toArray := fun j hj => by
  have hj' : j < l.length := by simpa using hj
  refine ⟨?_, hf j hj'⟩
  rw [h j _ (List.getElem?_eq_getElem hj'), getElem!_pos l.toArray j hj]
  simp
theorem holds_bl {w : World} {g o : Nat} {l : List ByteArray} (h : RowS w g o l) (hf : ∀ j, j < l.length → w.frozen? ⟨g, o + j, none⟩ = false) : Holds encStr w g o (l.map bl).toArray := fun j hj => by
  have hj' : j < l.length := by simpa using hj
  refine ⟨?_, hf j hj'⟩
  rw [h j _ (List.getElem?_eq_getElem hj'), getElem!_pos (l.map bl).toArray j hj]
  simp [encStr_bl]
theorem rowS_holds {w : World} {g o : Nat} {l : List ByteArray} (h : Holds Value.string w g o l.toArray) : RowS w g o l := fun j x hj => by
  have hj' := (List.getElem?_eq_some_iff.1 hj).1
  have := (h j (by simpa using hj')).1
  rw [getElem!_pos _ _ (by simpa using hj')] at this
  rw [this]
  have e := (List.getElem?_eq_some_iff.1 hj).2
  simp [e]
theorem rowS_holds_bl {w : World} {g o : Nat} {l : List (List UInt8)} (h : Holds encStr w g o l.toArray) : RowS w g o (l.map lb) := fun j x hj => by
  have hj' := (List.getElem?_eq_some_iff.1 hj).1
  have hj2 : j < l.length := by simpa using hj'
  have := (h j (by simpa using hj2)).1
  rw [getElem!_pos _ _ (by simpa using hj2)] at this
  rw [this]
  have e := (List.getElem?_eq_some_iff.1 hj).2
  simp only [List.getElem_map] at e
  simp [encStr, ← e, lb]
theorem chg_sort {α : Type} [Inhabited α] (enc : α → Value) (w : World) (g o n : Nat) (d : Array α) (os : Array Obj) : Chg (fun k => k = g) w (grow (putRow enc (Sort.ahead w n) g o d) os) := by
  have hs : (putRow enc (Sort.ahead w n) g o d).heap.size = w.heap.size := by rw [size_putRow]; rfl
  refine ⟨rfl, rfl, rfl, by rw [size_grow, hs]; omega, fun k hk hn => ?_⟩
  rw [heap_grow_old _ _ (by rw [hs]; exact hk)]
  have hn' : k ≠ g := hn
  show (w.heap.modify g _)[k]? = w.heap[k]?
  rw [Array.getElem?_modify, if_neg (Ne.symm hn')]
/-- the row written anew, cut to its first -/
theorem mine_sort {α : Type} [Inhabited α] (enc : α → Value) {base g o cap : Nat} {S : Nat → Prop} {w : World} {xs ys : List ByteArray} (h : Mine str base S w (.slice (some ⟨g, o, none⟩) xs.length cap) xs) (n : Nat) (d0 d : Array α) (os : Array Obj)
    (h0 : Holds enc w g o d0) (hd : d.size = d0.size) (hds : d0.size = xs.length) (hy : ys.length ≤ xs.length) (hr : RowS (grow (putRow enc (Sort.ahead w n) g o d) os) g o ys) :
    Mine str base S (grow (putRow enc (Sort.ahead w n) g o d) os) (.slice (some ⟨g, o, none⟩) ys.length cap) ys := by
  obtain ⟨A', cap', e, hle, hcm, hA⟩ := h
  injection e with e1 _ e3
  subst e1; subst e3
  rcases hA with ⟨e, _⟩ | ⟨g', o', e, hg, hlt, hsp, hcells⟩
  · cases e
  injection e with e
  injection e with e1 e2 _
  subst e1; subst e2
  have hs : (putRow enc (Sort.ahead w n) g o d).heap.size = w.heap.size := by rw [size_putRow]; rfl
  refine ⟨_, cap, rfl, by omega, hcm, .inr ⟨g, o, rfl, hg, by rw [size_grow, hs]; omega, fun j hj => ?_, rowS_cells hr⟩⟩
  rw [cell?_grow _ _ _ (by rw [hs]; exact hlt), frozen?_grow _ _ _ (by rw [hs]; exact hlt), frozen?_putRow]
  refine ⟨?_, (hsp j hj).2⟩
  by_cases hjd : j < d.size
  · have h0' : Holds enc (Sort.ahead w n) g o d0 := h0
    rw [cell?_putRow enc _ _ _ d0 d h0' hd j hjd]; rfl
  · rw [cell?_putRow_other _ _ _ _ _ _ (.inr (.inr (by show o + d.size ≤ o + j; omega)))]
    exact (hsp j hj).1
theorem mine_row {base g o cap : Nat} {S : Nat → Prop} {w : World} {n : Nat} {xs : List ByteArray} (h : Mine str base S w (.slice (some ⟨g, o, none⟩) n cap) xs) : n = xs.length ∧ xs.length ≤ cap ∧ g < w.heap.size ∧ RowS w g o xs ∧ ∀ j, j < cap → w.frozen? ⟨g, o + j, none⟩ = false := by
  obtain ⟨A', cap', e, hle, hcm, hA⟩ := h
  injection e with e1 e2 e3
  subst e1; subst e2; subst e3
  rcases hA with ⟨e, _⟩ | ⟨g', o', e, hg, hlt, hsp, hcells⟩
  · cases e
  injection e with e
  injection e with e1 e2 _
  subst e1; subst e2
  exact ⟨rfl, hle, hlt, rowS_of hcells, fun j hj => (hsp j (by
    have e : str.sz = 1 := rfl
    rw [e, Nat.mul_one]; exact hj)).2⟩
end Go.Proofs.YthfomoigaoffgaaGreat.So
