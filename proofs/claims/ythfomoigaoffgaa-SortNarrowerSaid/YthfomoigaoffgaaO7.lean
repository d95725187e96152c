/- Plain model of sort.Needed, Args, Ground.  No program in sight. -/
import Derived.Test.YthfomoigaoffgaaO6
namespace Go.Proofs.Ythfomoigaoffgaa.O
set_option linter.unusedSimpArgs false
set_option linter.unusedVariables false
open Go Go.Proofs.Ythfomoigaoffgaa.Ix

/-- row by row, appended -/
def zipA : List (List ByteArray) → List (List ByteArray) → List (List ByteArray)
  | o :: os, x :: xs => (o ++ x) :: zipA os xs
  | os, _ => os
theorem zipA_len : ∀ (os xs : List (List ByteArray)), (zipA os xs).length = os.length
  | [], [] => rfl
  | [], _ :: _ => rfl
  | _ :: _, [] => rfl
  | _ :: os, _ :: xs => by rw [zipA, List.length_cons, List.length_cons, zipA_len os xs]
theorem zipA_nil (os : List (List ByteArray)) : zipA os [] = os := by cases os <;> rfl
/-- a step of it: the first k are done -/
theorem zipA_get : ∀ (os xs : List (List ByteArray)) (j : Nat), xs.length ≤ os.length → (zipA os xs)[j]? = (os[j]?).map (fun o => o ++ (xs[j]?.getD []))
  | [], [], j, _ => rfl
  | [], _ :: _, j, h => by simp at h
  | o :: os, [], j, _ => by
    rw [zipA_nil]
    cases (o :: os)[j]? <;> simp
  | o :: os, x :: xs, 0, _ => rfl
  | o :: os, x :: xs, j + 1, h => by
    rw [zipA, List.getElem?_cons_succ, List.getElem?_cons_succ, List.getElem?_cons_succ]
    exact zipA_get os xs j (by simpa using h)
theorem zipA_step (os xs : List (List ByteArray)) (j : Nat) (hj : j < xs.length) (h : xs.length ≤ os.length) : zipA os (xs.take (j + 1)) = (zipA os (xs.take j)).set j (((zipA os (xs.take j))[j]?.getD []) ++ xs[j]'hj) := by
  have hl : ∀ n, (xs.take n).length ≤ os.length := fun n => by rw [List.length_take]; omega
  refine List.ext_getElem? fun i => ?_
  rw [List.getElem?_set, zipA_get _ _ _ (hl _), zipA_len, zipA_get _ _ _ (hl _), zipA_get _ _ _ (hl _)]
  by_cases hij : j = i
  · subst hij
    rw [if_pos rfl, if_pos (by omega), List.getElem?_take, List.getElem?_take, if_pos (by omega), if_neg (by omega), List.getElem?_eq_getElem hj, List.getElem?_eq_getElem (show j < os.length by omega)]
    simp
  · rw [if_neg hij, List.getElem?_take, List.getElem?_take]
    by_cases h1 : i < j
    · rw [if_pos (by omega), if_pos h1]
    · rw [if_neg (by omega), if_neg h1]
/-- the sorts of the arguments, gathered over a sort's classes -/
def gather (ars : List Arx) (t : ByteArray) : List ByteArray → List (List ByteArray) → Option (List (List ByteArray))
  | [], out => some out
  | c :: r, out => match findA ars t c with
    | none => none
    | some b => gather ars t r (zipA out b.2.2)
def needB (cs : List Cl) (ts : List Td) (ars : List Arx) (t : ByteArray) (s : List ByteArray) : Option (List (List ByteArray)) := match args? ts t with
  | none => none
  | some n => (gather ars t s (List.replicate n.toNat [])).map (fun l => l.map (leastB cs))
/-- what Args answers -/
def argsB (cs : List Cl) (ts : List Td) (ars : List Arx) (t : ByteArray) (s : List ByteArray) : List (List ByteArray) × Int :=
  if checkT cs ts ars ≠ 0 then ([], checkT cs ts ars) else if (args? ts t).isNone then ([], 9) else if (normB cs s).2 ≠ 0 then ([], (normB cs s).2) else match needB cs ts ars t (normB cs s).1 with
    | none => ([], 14)
    | some l => if l.any (fun x => decide (20 < x.length)) then ([], 5) else (l, 0)
end Go.Proofs.Ythfomoigaoffgaa.O
