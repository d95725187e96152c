/- Plain model of sort.Check: constructors, arities; the reference's answers are the program's.  No program in sight. -/
import Derived.Test.YthfomoigaoffgaaO4
namespace Go.Proofs.Ythfomoigaoffgaa.O
set_option linter.unusedSimpArgs false
set_option linter.unusedVariables false
open Go Go.Proofs.Ythfomoigaoffgaa.Ix

abbrev Td := ByteArray × Int
abbrev Arx := ByteArray × ByteArray × List (List ByteArray)
/-- the error of the constructors, with those ahead -/
def ctE : List ByteArray → List Td → Int
  | _, [] => 0
  | met, d :: r => if nameB d.1 then (if met.contains d.1 then 10 else if d.2 < 0 ∨ 10 < d.2 then 4 else ctE (met ++ [d.1]) r) else 30
def constrE (ts : List Td) : Int := if 300 < ts.length then 5 else ctE [] ts
/-- how many arguments a constructor has -/
def args? (ts : List Td) (a : ByteArray) : Option Int := (ts.find? (fun d => d.1 == a)).map (·.2)
def sortE (cs : List Cl) (s : List ByteArray) : Int := if 20 < s.length then 5 else if knownB cs s then (if decide (s = leastB cs s) then 0 else 14) else 9
def sortsX (cs : List Cl) : List (List ByteArray) → Int
  | [] => 0
  | s :: r => if sortE cs s ≠ 0 then sortE cs s else sortsX cs r
def arE (cs : List Cl) (ts : List Td) : List (ByteArray × ByteArray) → List Arx → Int
  | _, [] => 0
  | met, a :: r => match args? ts a.1 with
    | none => 9
    | some n => if has cs a.2.1 then (if met.contains (a.1, a.2.1) then 10 else if (a.2.2.length : Int) ≠ n then 5 else if sortsX cs a.2.2 ≠ 0 then sortsX cs a.2.2 else arE cs ts (met ++ [(a.1, a.2.1)]) r) else 9
def findA (ars : List Arx) (t c : ByteArray) : Option Arx := ars.find? (fun a => a.1 == t && a.2.1 == c)
/-- sort by sort within -/
def zipW (cs : List Cl) : List (List ByteArray) → List (List ByteArray) → Bool
  | [], _ => true
  | x :: r, y :: s => withinB cs x y && zipW cs r s
  | _ :: _, [] => true
def regB (cs : List Cl) (ars : List Arx) (a : Arx) : Bool := (abL cs a.2.1).all (fun c => match findA ars a.1 c with
  | none => false
  | some b => zipW cs a.2.2 b.2.2)
def aritiesE (cs : List Cl) (ts : List Td) (ars : List Arx) : Int := if 300 < ars.length then 5 else if arE cs ts [] ars ≠ 0 then arE cs ts [] ars else if ars.all (regB cs ars) then 0 else 31
def checkT (cs : List Cl) (ts : List Td) (ars : List Arx) : Int := if classesE cs ≠ 0 then classesE cs else if constrE ts ≠ 0 then constrE ts else aritiesE cs ts ars

theorem args_take (ts : List Td) (k : Nat) (a : ByteArray) : (args? (ts.take k) a).isSome = ((ts.take k).map (·.1)).contains a := by
  unfold args?
  generalize ts.take k = l
  rw [Option.isSome_map]
  induction l with
  | nil => rfl
  | cons d r ih =>
    rw [List.find?_cons, List.map_cons, List.contains_cons]
    cases h : (d.1 == a) with
    | true =>
      have : (a == d.1) = true := by rw [beq_iff] at *; exact h.symm
      rw [this]; rfl
    | false =>
      have : (a == d.1) = false := by
        rw [Bool.eq_false_iff] at *
        intro e
        exact h ((beq_iff _ _).2 ((beq_iff _ _).1 e).symm)
      rw [this, Bool.false_or, ih]
end Go.Proofs.Ythfomoigaoffgaa.O
