/- The reference's searches for constructors and arities are those of the plain model.  No program in sight. -/
import Derived.Test.YthfomoigaoffgaaO5
namespace Go.Proofs.Ythfomoigaoffgaa.O
set_option linter.unusedSimpArgs false
set_option linter.unusedVariables false
open Go Go.Proofs.Ythfomoigaoffgaa.Ix

theorem idxP_cases {α κ : Type} (f : α → κ) (p : κ → α → Bool) (hp : ∀ a x, p a x = true ↔ f x = a) (l : List α) (a : κ) : (idxP (p a) l 0 = -1 ∧ l.find? (p a) = none ∧ ∀ c ∈ l, f c ≠ a) ∨
    ∃ k, ∃ h : k < l.length, idxP (p a) l 0 = (k : Int) ∧ l.find? (p a) = some (l[k]'h) ∧ f (l[k]'h) = a ∧ ∀ j (hj : j < k), f (l[j]'(Nat.lt_trans hj h)) ≠ a := by
  rcases idxP_range (p a) l 0 with e | ⟨k, hk, e, h1, h2⟩
  · have h := idxP_any (p a) l 0
    rw [e, decide_eq_false (by decide)] at h
    have hn : ∀ c ∈ l, ¬ p a c = true := fun c hc => List.any_eq_false.1 h.symm c hc
    exact .inl ⟨e, List.find?_eq_none.2 hn, fun c hc he => hn c hc ((hp a c).2 he)⟩
  · refine .inr ⟨k, hk, by rw [← Nat.zero_add k]; exact e, ?_, (hp _ _).1 h1, fun j hj he => ?_⟩
    · rw [List.find?_eq_some_iff_getElem]
      exact ⟨h1, k, hk, rfl, fun j hj => by rw [h2 j hj]; rfl⟩
    · have := h2 j hj
      rw [(hp _ _).2 he] at this
      exact absurd this (by decide)
theorem idxP_met {α κ : Type} [BEq κ] [LawfulBEq κ] (f : α → κ) (p : κ → α → Bool) (hp : ∀ a x, p a x = true ↔ f x = a) (l : List α) (a : κ) (i : Nat) : ((l.take i).map f).contains a = (decide (0 ≤ idxP (p a) l 0) && decide (idxP (p a) l 0 < (i : Int))) := by
  rw [Bool.eq_iff_iff, List.contains_iff_mem, List.mem_map, Bool.and_eq_true, decide_eq_true_eq, decide_eq_true_eq]
  rcases idxP_cases f p hp l a with ⟨e, _, h⟩ | ⟨k, hk, e, _, h1, h2⟩
  · rw [e]
    constructor
    · rintro ⟨c, hc, hc2⟩
      exact absurd hc2 (h c (List.mem_of_mem_take hc))
    · rintro ⟨h0, _⟩
      exact absurd h0 (by decide)
  · rw [e]
    constructor
    · rintro ⟨c, hc, hc2⟩
      obtain ⟨j, hj, rfl⟩ := List.mem_iff_getElem.1 hc
      rw [List.length_take] at hj
      rw [List.getElem_take] at hc2
      refine ⟨by omega, ?_⟩
      by_cases hjk : j < k
      · exact absurd hc2 (h2 j hjk)
      · omega
    · rintro ⟨_, h3⟩
      exact ⟨l[k]'hk, List.mem_iff_getElem.2 ⟨k, by rw [List.length_take]; omega, by rw [List.getElem_take]⟩, h1⟩
theorem idxP_dup {α κ : Type} [BEq κ] [LawfulBEq κ] (f : α → κ) (p : κ → α → Bool) (hp : ∀ a x, p a x = true ↔ f x = a) (l : List α) (i : Nat) (hi : i < l.length) : ((l.take i).map f).contains (f (l[i]'hi)) = !(idxP (p (f (l[i]'hi))) l 0 == (i : Int)) := by
  rw [idxP_met f p hp]
  rcases idxP_cases f p hp l (f (l[i]'hi)) with ⟨e, _, h⟩ | ⟨k, hk, e, _, h1, h2⟩
  · exact absurd rfl (h _ (List.getElem_mem hi))
  · rw [e, Bool.eq_iff_iff, Bool.and_eq_true, decide_eq_true_eq, decide_eq_true_eq, Bool.not_eq_true', beq_eq_false_iff_ne]
    by_cases hki : k ≤ i
    · omega
    · exact absurd rfl (h2 i (by omega))

/-- the index of a constructor -/
def tidx (ts : List Td) (a : ByteArray) : Int := idxP (fun d : Td => d.1 == a) ts 0
theorem tidx_dup (ts : List Td) (i : Nat) (hi : i < ts.length) : ((ts.take i).map (·.1)).contains (ts[i]'hi).1 = !(tidx ts (ts[i]'hi).1 == (i : Int)) :=
  idxP_dup (fun d : Td => d.1) (fun a d => d.1 == a) (fun a x => beq_iff _ _) ts i hi
theorem tidx_cases (ts : List Td) (a : ByteArray) : (tidx ts a = -1 ∧ args? ts a = none) ∨ ∃ k, ∃ h : k < ts.length, tidx ts a = (k : Int) ∧ args? ts a = some (ts[k]'h).2 := by
  unfold args?
  rcases idxP_cases (fun d : Td => d.1) (fun a d => d.1 == a) (fun a x => beq_iff _ _) ts a with ⟨e, h, _⟩ | ⟨k, hk, e, h, _, _⟩
  · exact .inl ⟨e, by rw [h]; rfl⟩
  · exact .inr ⟨k, hk, e, by rw [h]; rfl⟩
/-- the index of an arity -/
def aidx (ars : List Arx) (t c : ByteArray) : Int := idxP (fun a : Arx => a.1 == t && a.2.1 == c) ars 0
theorem ar_key (a : ByteArray × ByteArray) (x : Arx) : (x.1 == a.1 && x.2.1 == a.2) = true ↔ (x.1, x.2.1) = a := by
  rw [Bool.and_eq_true, beq_iff, beq_iff]
  obtain ⟨p, q⟩ := a
  exact ⟨fun h => by rw [h.1, h.2], fun h => by cases h; exact ⟨rfl, rfl⟩⟩
theorem aidx_dup (ars : List Arx) (i : Nat) (hi : i < ars.length) : ((ars.take i).map (fun a => (a.1, a.2.1))).contains ((ars[i]'hi).1, (ars[i]'hi).2.1) = !(aidx ars (ars[i]'hi).1 (ars[i]'hi).2.1 == (i : Int)) :=
  idxP_dup (fun a : Arx => (a.1, a.2.1)) (fun k a => a.1 == k.1 && a.2.1 == k.2) ar_key ars i hi
theorem aidx_cases (ars : List Arx) (t c : ByteArray) : (aidx ars t c = -1 ∧ findA ars t c = none) ∨ ∃ k, ∃ h : k < ars.length, aidx ars t c = (k : Int) ∧ findA ars t c = some (ars[k]'h) := by
  rcases idxP_cases (fun a : Arx => (a.1, a.2.1)) (fun k a => a.1 == k.1 && a.2.1 == k.2) ar_key ars (t, c) with ⟨e, h, _⟩ | ⟨k, hk, e, h, _, _⟩
  · exact .inl ⟨e, h⟩
  · exact .inr ⟨k, hk, e, h⟩
/-- the error of one arity -/
def oneE (cs : List Cl) (ts : List Td) (met : List (ByteArray × ByteArray)) (a : Arx) : Int := match args? ts a.1 with
  | none => 9
  | some n => if has cs a.2.1 then (if met.contains (a.1, a.2.1) then 10 else if (a.2.2.length : Int) ≠ n then 5 else sortsX cs a.2.2) else 9
theorem arE_one (cs : List Cl) (ts : List Td) (met : List (ByteArray × ByteArray)) (a : Arx) (r : List Arx) : arE cs ts met (a :: r) = if oneE cs ts met a ≠ 0 then oneE cs ts met a else arE cs ts (met ++ [(a.1, a.2.1)]) r := by
  rw [arE]
  unfold oneE
  cases args? ts a.1 with
  | none => exact (if_pos (show (9 : Int) ≠ 0 by decide)).symm
  | some n =>
    show (if has cs a.2.1 then (if met.contains (a.1, a.2.1) then 10 else if (a.2.2.length : Int) ≠ n then 5 else if sortsX cs a.2.2 ≠ 0 then sortsX cs a.2.2 else arE cs ts (met ++ [(a.1, a.2.1)]) r) else 9) = if (if has cs a.2.1 then (if met.contains (a.1, a.2.1) then 10 else if (a.2.2.length : Int) ≠ n then 5 else sortsX cs a.2.2) else 9) ≠ 0 then (if has cs a.2.1 then (if met.contains (a.1, a.2.1) then 10 else if (a.2.2.length : Int) ≠ n then 5 else sortsX cs a.2.2) else 9) else arE cs ts (met ++ [(a.1, a.2.1)]) r
    by_cases h1 : has cs a.2.1 = true
    · simp only [if_pos h1]
      by_cases h2 : met.contains (a.1, a.2.1) = true
      · simp only [if_pos h2]
        exact (if_pos (by decide)).symm
      · simp only [if_neg h2]
        by_cases h3 : (a.2.2.length : Int) = n
        · simp only [if_neg (fun e : (a.2.2.length : Int) ≠ n => e h3)]
        · simp only [if_pos h3]
          exact (if_pos (by decide)).symm
    · simp only [if_neg h1]
      exact (if_pos (by decide)).symm
end Go.Proofs.Ythfomoigaoffgaa.O
