/- Plain models of theories: constructors, arities, Check, Needed, Args, Ground. -/
import Derived.Test.YthfomoigaoffgaaGreatOa
namespace Go.Proofs.YthfomoigaoffgaaGreat.O
set_option linter.unusedSimpArgs false
set_option linter.unusedVariables false
open Go Go.Proofs.YthfomoigaoffgaaGreat.Ix

abbrev Td := ByteArray × Int
abbrev Arx := ByteArray × ByteArray × List (List ByteArray)
/-- the error of the constructors, with those ahead -/
def ctE : List ByteArray → List Td → Int
  | _, [] => 0
  | met, d :: r => if nameB d.1 then (if met.contains d.1 then 10 else if d.2 < 0 ∨ 10 < d.2 then 4 else ctE (met ++ [d.1]) r) else 30
def constrE (ts : List Td) : Int := if 300 < ts.length then 5 else ctE [] ts
/-- how many arguments a constructor has -/
def args? (ts : List Td) (a : ByteArray) : Option Int := (ts.find? (fun d => d.1 == a)).map (·.2)
def sortE (cs : List Cl) (s : List ByteArray) : Int := if 20 < s.length then 5 else if knownB cs s then (if decide (s = leastB cs s) then 0 else 14) else 9
def sortsX (cs : List Cl) : List (List ByteArray) → Int
  | [] => 0
  | s :: r => if sortE cs s ≠ 0 then sortE cs s else sortsX cs r
def arE (cs : List Cl) (ts : List Td) : List (ByteArray × ByteArray) → List Arx → Int
  | _, [] => 0
  | met, a :: r => match args? ts a.1 with
    | none => 9
    | some n => if has cs a.2.1 then (if met.contains (a.1, a.2.1) then 10 else if (a.2.2.length : Int) ≠ n then 5 else if sortsX cs a.2.2 ≠ 0 then sortsX cs a.2.2 else arE cs ts (met ++ [(a.1, a.2.1)]) r) else 9
def findA (ars : List Arx) (t c : ByteArray) : Option Arx := ars.find? (fun a => a.1 == t && a.2.1 == c)
/-- sort by sort within -/
def zipW (cs : List Cl) : List (List ByteArray) → List (List ByteArray) → Bool
  | [], _ => true
  | x :: r, y :: s => withinB cs x y && zipW cs r s
  | _ :: _, [] => true
def regB (cs : List Cl) (ars : List Arx) (a : Arx) : Bool := (abL cs a.2.1).all (fun c => match findA ars a.1 c with
  | none => false
  | some b => zipW cs a.2.2 b.2.2)
def aritiesE (cs : List Cl) (ts : List Td) (ars : List Arx) : Int := if 300 < ars.length then 5 else if arE cs ts [] ars ≠ 0 then arE cs ts [] ars else if ars.all (regB cs ars) then 0 else 31
def checkT (cs : List Cl) (ts : List Td) (ars : List Arx) : Int := if classesE cs ≠ 0 then classesE cs else if constrE ts ≠ 0 then constrE ts else aritiesE cs ts ars

theorem args_take (ts : List Td) (k : Nat) (a : ByteArray) : (args? (ts.take k) a).isSome = ((ts.take k).map (·.1)).contains a := by
  unfold args?
  generalize ts.take k = l
  rw [Option.isSome_map]
  induction l with
  | nil => rfl
  | cons d r ih =>
    rw [List.find?_cons, List.map_cons, List.contains_cons]
    cases h : (d.1 == a) with
    | true =>
      have : (a == d.1) = true := by rw [beq_iff] at *; exact h.symm
      rw [this]; rfl
    | false =>
      have : (a == d.1) = false := by
        rw [Bool.eq_false_iff] at *
        intro e
        exact h ((beq_iff _ _).2 ((beq_iff _ _).1 e).symm)
      rw [this, Bool.false_or, ih]
end Go.Proofs.YthfomoigaoffgaaGreat.O
namespace Go.Proofs.YthfomoigaoffgaaGreat.O
set_option linter.unusedSimpArgs false
set_option linter.unusedVariables false
open Go Go.Proofs.YthfomoigaoffgaaGreat.Ix

theorem idxP_cases {α κ : Type} (f : α → κ) (p : κ → α → Bool) (hp : ∀ a x, p a x = true ↔ f x = a) (l : List α) (a : κ) : (idxP (p a) l 0 = -1 ∧ l.find? (p a) = none ∧ ∀ c ∈ l, f c ≠ a) ∨
    ∃ k, ∃ h : k < l.length, idxP (p a) l 0 = (k : Int) ∧ l.find? (p a) = some (l[k]'h) ∧ f (l[k]'h) = a ∧ ∀ j (hj : j < k), f (l[j]'(Nat.lt_trans hj h)) ≠ a := by
  rcases idxP_range (p a) l 0 with e | ⟨k, hk, e, h1, h2⟩
  · have h := idxP_any (p a) l 0
    rw [e, decide_eq_false (by decide)] at h
    have hn : ∀ c ∈ l, ¬ p a c = true := fun c hc => List.any_eq_false.1 h.symm c hc
    exact .inl ⟨e, List.find?_eq_none.2 hn, fun c hc he => hn c hc ((hp a c).2 he)⟩
  · refine .inr ⟨k, hk, by rw [← Nat.zero_add k]; exact e, ?_, (hp _ _).1 h1, fun j hj he => ?_⟩
    · rw [List.find?_eq_some_iff_getElem]
      exact ⟨h1, k, hk, rfl, fun j hj => by rw [h2 j hj]; rfl⟩
    · have := h2 j hj
      rw [(hp _ _).2 he] at this
      exact absurd this (by decide)
theorem idxP_met {α κ : Type} [BEq κ] [LawfulBEq κ] (f : α → κ) (p : κ → α → Bool) (hp : ∀ a x, p a x = true ↔ f x = a) (l : List α) (a : κ) (i : Nat) : ((l.take i).map f).contains a = (decide (0 ≤ idxP (p a) l 0) && decide (idxP (p a) l 0 < (i : Int))) := by
  rw [Bool.eq_iff_iff, List.contains_iff_mem, List.mem_map, Bool.and_eq_true, decide_eq_true_eq, decide_eq_true_eq]
  rcases idxP_cases f p hp l a with ⟨e, _, h⟩ | ⟨k, hk, e, _, h1, h2⟩
  · rw [e]
    constructor
    · rintro ⟨c, hc, hc2⟩
      exact absurd hc2 (h c (List.mem_of_mem_take hc))
    · rintro ⟨h0, _⟩
      exact absurd h0 (by decide)
  · rw [e]
    constructor
    · rintro ⟨c, hc, hc2⟩
      obtain ⟨j, hj, rfl⟩ := List.mem_iff_getElem.1 hc
      rw [List.length_take] at hj
      rw [List.getElem_take] at hc2
      refine ⟨by omega, ?_⟩
      by_cases hjk : j < k
      · exact absurd hc2 (h2 j hjk)
      · omega
    · rintro ⟨_, h3⟩
      exact ⟨l[k]'hk, List.mem_iff_getElem.2 ⟨k, by rw [List.length_take]; omega, by rw [List.getElem_take]⟩, h1⟩
theorem idxP_dup {α κ : Type} [BEq κ] [LawfulBEq κ] (f : α → κ) (p : κ → α → Bool) (hp : ∀ a x, p a x = true ↔ f x = a) (l : List α) (i : Nat) (hi : i < l.length) : ((l.take i).map f).contains (f (l[i]'hi)) = !(idxP (p (f (l[i]'hi))) l 0 == (i : Int)) := by
  rw [idxP_met f p hp]
  rcases idxP_cases f p hp l (f (l[i]'hi)) with ⟨e, _, h⟩ | ⟨k, hk, e, _, h1, h2⟩
  · exact absurd rfl (h _ (List.getElem_mem hi))
  · rw [e, Bool.eq_iff_iff, Bool.and_eq_true, decide_eq_true_eq, decide_eq_true_eq, Bool.not_eq_true', beq_eq_false_iff_ne]
    by_cases hki : k ≤ i
    · omega
    · exact absurd rfl (h2 i (by omega))

/-- the index of a constructor -/
def tidx (ts : List Td) (a : ByteArray) : Int := idxP (fun d : Td => d.1 == a) ts 0
theorem tidx_dup (ts : List Td) (i : Nat) (hi : i < ts.length) : ((ts.take i).map (·.1)).contains (ts[i]'hi).1 = !(tidx ts (ts[i]'hi).1 == (i : Int)) :=
  idxP_dup (fun d : Td => d.1) (fun a d => d.1 == a) (fun a x => beq_iff _ _) ts i hi
theorem tidx_cases (ts : List Td) (a : ByteArray) : (tidx ts a = -1 ∧ args? ts a = none) ∨ ∃ k, ∃ h : k < ts.length, tidx ts a = (k : Int) ∧ args? ts a = some (ts[k]'h).2 := by
  unfold args?
  rcases idxP_cases (fun d : Td => d.1) (fun a d => d.1 == a) (fun a x => beq_iff _ _) ts a with ⟨e, h, _⟩ | ⟨k, hk, e, h, _, _⟩
  · exact .inl ⟨e, by rw [h]; rfl⟩
  · exact .inr ⟨k, hk, e, by rw [h]; rfl⟩
/-- the index of an arity -/
def aidx (ars : List Arx) (t c : ByteArray) : Int := idxP (fun a : Arx => a.1 == t && a.2.1 == c) ars 0
theorem ar_key (a : ByteArray × ByteArray) (x : Arx) : (x.1 == a.1 && x.2.1 == a.2) = true ↔ (x.1, x.2.1) = a := by
  rw [Bool.and_eq_true, beq_iff, beq_iff]
  obtain ⟨p, q⟩ := a
  exact ⟨fun h => by rw [h.1, h.2], fun h => by cases h; exact ⟨rfl, rfl⟩⟩
theorem aidx_dup (ars : List Arx) (i : Nat) (hi : i < ars.length) : ((ars.take i).map (fun a => (a.1, a.2.1))).contains ((ars[i]'hi).1, (ars[i]'hi).2.1) = !(aidx ars (ars[i]'hi).1 (ars[i]'hi).2.1 == (i : Int)) :=
  idxP_dup (fun a : Arx => (a.1, a.2.1)) (fun k a => a.1 == k.1 && a.2.1 == k.2) ar_key ars i hi
theorem aidx_cases (ars : List Arx) (t c : ByteArray) : (aidx ars t c = -1 ∧ findA ars t c = none) ∨ ∃ k, ∃ h : k < ars.length, aidx ars t c = (k : Int) ∧ findA ars t c = some (ars[k]'h) := by
  rcases idxP_cases (fun a : Arx => (a.1, a.2.1)) (fun k a => a.1 == k.1 && a.2.1 == k.2) ar_key ars (t, c) with ⟨e, h, _⟩ | ⟨k, hk, e, h, _, _⟩
  · exact .inl ⟨e, h⟩
  · exact .inr ⟨k, hk, e, h⟩
/-- the error of one arity -/
def oneE (cs : List Cl) (ts : List Td) (met : List (ByteArray × ByteArray)) (a : Arx) : Int := match args? ts a.1 with
  | none => 9
  | some n => if has cs a.2.1 then (if met.contains (a.1, a.2.1) then 10 else if (a.2.2.length : Int) ≠ n then 5 else sortsX cs a.2.2) else 9
theorem arE_one (cs : List Cl) (ts : List Td) (met : List (ByteArray × ByteArray)) (a : Arx) (r : List Arx) : arE cs ts met (a :: r) = if oneE cs ts met a ≠ 0 then oneE cs ts met a else arE cs ts (met ++ [(a.1, a.2.1)]) r := by
  rw [arE]
  unfold oneE
  cases args? ts a.1 with
  | none => exact (if_pos (show (9 : Int) ≠ 0 by decide)).symm
  | some n =>
    show (if has cs a.2.1 then (if met.contains (a.1, a.2.1) then 10 else if (a.2.2.length : Int) ≠ n then 5 else if sortsX cs a.2.2 ≠ 0 then sortsX cs a.2.2 else arE cs ts (met ++ [(a.1, a.2.1)]) r) else 9) = if (if has cs a.2.1 then (if met.contains (a.1, a.2.1) then 10 else if (a.2.2.length : Int) ≠ n then 5 else sortsX cs a.2.2) else 9) ≠ 0 then (if has cs a.2.1 then (if met.contains (a.1, a.2.1) then 10 else if (a.2.2.length : Int) ≠ n then 5 else sortsX cs a.2.2) else 9) else arE cs ts (met ++ [(a.1, a.2.1)]) r
    by_cases h1 : has cs a.2.1 = true
    · simp only [if_pos h1]
      by_cases h2 : met.contains (a.1, a.2.1) = true
      · simp only [if_pos h2]
        exact (if_pos (by decide)).symm
      · simp only [if_neg h2]
        by_cases h3 : (a.2.2.length : Int) = n
        · simp only [if_neg (fun e : (a.2.2.length : Int) ≠ n => e h3)]
        · simp only [if_pos h3]
          exact (if_pos (by decide)).symm
    · simp only [if_neg h1]
      exact (if_pos (by decide)).symm
end Go.Proofs.YthfomoigaoffgaaGreat.O
namespace Go.Proofs.YthfomoigaoffgaaGreat.O
set_option linter.unusedSimpArgs false
set_option linter.unusedVariables false
open Go Go.Proofs.YthfomoigaoffgaaGreat.Ix

/-- row by row, appended -/
def zipA : List (List ByteArray) → List (List ByteArray) → List (List ByteArray)
  | o :: os, x :: xs => (o ++ x) :: zipA os xs
  | os, _ => os
theorem zipA_len : ∀ (os xs : List (List ByteArray)), (zipA os xs).length = os.length
  | [], [] => rfl
  | [], _ :: _ => rfl
  | _ :: _, [] => rfl
  | _ :: os, _ :: xs => by rw [zipA, List.length_cons, List.length_cons, zipA_len os xs]
theorem zipA_nil (os : List (List ByteArray)) : zipA os [] = os := by cases os <;> rfl
/-- a step of it: the first k are done -/
theorem zipA_get : ∀ (os xs : List (List ByteArray)) (j : Nat), xs.length ≤ os.length → (zipA os xs)[j]? = (os[j]?).map (fun o => o ++ (xs[j]?.getD []))
  | [], [], j, _ => rfl
  | [], _ :: _, j, h => by simp at h
  | o :: os, [], j, _ => by
    rw [zipA_nil]
    cases (o :: os)[j]? <;> simp
  | o :: os, x :: xs, 0, _ => rfl
  | o :: os, x :: xs, j + 1, h => by
    rw [zipA, List.getElem?_cons_succ, List.getElem?_cons_succ, List.getElem?_cons_succ]
    exact zipA_get os xs j (by simpa using h)
theorem zipA_step (os xs : List (List ByteArray)) (j : Nat) (hj : j < xs.length) (h : xs.length ≤ os.length) : zipA os (xs.take (j + 1)) = (zipA os (xs.take j)).set j (((zipA os (xs.take j))[j]?.getD []) ++ xs[j]'hj) := by
  have hl : ∀ n, (xs.take n).length ≤ os.length := fun n => by rw [List.length_take]; omega
  refine List.ext_getElem? fun i => ?_
  rw [List.getElem?_set, zipA_get _ _ _ (hl _), zipA_len, zipA_get _ _ _ (hl _), zipA_get _ _ _ (hl _)]
  by_cases hij : j = i
  · subst hij
    rw [if_pos rfl, if_pos (by omega), List.getElem?_take, List.getElem?_take, if_pos (by omega), if_neg (by omega), List.getElem?_eq_getElem hj, List.getElem?_eq_getElem (show j < os.length by omega)]
    simp
  · rw [if_neg hij, List.getElem?_take, List.getElem?_take]
    by_cases h1 : i < j
    · rw [if_pos (by omega), if_pos h1]
    · rw [if_neg (by omega), if_neg h1]
/-- the sorts of the arguments, gathered over a sort's classes -/
def gather (ars : List Arx) (t : ByteArray) : List ByteArray → List (List ByteArray) → Option (List (List ByteArray))
  | [], out => some out
  | c :: r, out => match findA ars t c with
    | none => none
    | some b => gather ars t r (zipA out b.2.2)
def needB (cs : List Cl) (ts : List Td) (ars : List Arx) (t : ByteArray) (s : List ByteArray) : Option (List (List ByteArray)) := match args? ts t with
  | none => none
  | some n => (gather ars t s (List.replicate n.toNat [])).map (fun l => l.map (leastB cs))
/-- what Args answers -/
def argsB (cs : List Cl) (ts : List Td) (ars : List Arx) (t : ByteArray) (s : List ByteArray) : List (List ByteArray) × Int :=
  if checkT cs ts ars ≠ 0 then ([], checkT cs ts ars) else if (args? ts t).isNone then ([], 9) else if (normB cs s).2 ≠ 0 then ([], (normB cs s).2) else match needB cs ts ars t (normB cs s).1 with
    | none => ([], 14)
    | some l => if l.any (fun x => decide (20 < x.length)) then ([], 5) else (l, 0)
end Go.Proofs.YthfomoigaoffgaaGreat.O
namespace Go.Proofs.YthfomoigaoffgaaGreat.O
set_option linter.unusedSimpArgs false
set_option linter.unusedVariables false
open Go Go.Proofs.YthfomoigaoffgaaGreat.Ix

/-- a ground type -/
inductive Tr where
  | con : ByteArray → List Tr → Tr
/-- one after the other, as long as there is something -/
def allG (f : List ByteArray → Option Tr) : List (List ByteArray) → Option (List Tr)
  | [] => some []
  | x :: r => match f x with
    | none => none
    | some a => (allG f r).map (fun l => a :: l)
/-- the first constructor that answers -/
def firstG (need : ByteArray → Option (List (List ByteArray))) (f : List ByteArray → Option Tr) : List Td → Option Tr
  | [] => none
  | d :: r => match need d.1 with
    | none => firstG need f r
    | some l => match allG f l with
      | none => firstG need f r
      | some a => some (.con d.1 a)
def groundB (cs : List Cl) (ts : List Td) (ars : List Arx) : Nat → List ByteArray → Option Tr
  | 0, _ => none
  | d + 1, s => firstG (fun t => needB cs ts ars t s) (fun x => groundB cs ts ars d x) ts
theorem allG_some {f : List ByteArray → Option Tr} : ∀ (l : List (List ByteArray)), (allG f l).isSome = l.all (fun x => (f x).isSome)
  | [] => rfl
  | x :: r => by
    rw [allG, List.all_cons]
    cases f x with
    | none => rfl
    | some a => rw [Option.isSome_map, allG_some r]; rfl
theorem firstG_some {need : ByteArray → Option (List (List ByteArray))} {f : List ByteArray → Option Tr} : ∀ (l : List Td), (firstG need f l).isSome = l.any (fun d => match need d.1 with
    | none => false
    | some x => x.all (fun y => (f y).isSome))
  | [] => rfl
  | d :: r => by
    rw [firstG, List.any_cons]
    cases need d.1 with
    | none => rw [Bool.false_or]; exact firstG_some r
    | some l =>
      have h := allG_some (f := f) l
      dsimp only
      cases ha : allG f l with
      | none =>
        rw [ha] at h
        rw [← h]
        exact (firstG_some r).trans (Bool.false_or _).symm
      | some a =>
        rw [ha] at h
        rw [← h]
        rfl
theorem ground_mono {cs : List Cl} {ts : List Td} {ars : List Arx} : ∀ (d : Nat) (s : List ByteArray), (groundB cs ts ars d s).isSome = true → (groundB cs ts ars (d + 1) s).isSome = true
  | 0, s, h => by rw [groundB] at h; exact absurd h (by decide)
  | d + 1, s, h => by
    rw [groundB, firstG_some, List.any_eq_true] at h ⊢
    obtain ⟨t, ht, h⟩ := h
    refine ⟨t, ht, ?_⟩
    cases hn : needB cs ts ars t.1 s with
    | none => rw [hn] at h; exact h
    | some l =>
      rw [hn] at h
      exact List.all_eq_true.2 fun x hx => ground_mono d x (List.all_eq_true.1 h x hx)
end Go.Proofs.YthfomoigaoffgaaGreat.O
