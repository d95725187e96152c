/- Plain model of sort.ground; to a greater depth it finds something, too.  No program in sight. -/
import Derived.Test.YthfomoigaoffgaaO7
namespace Go.Proofs.Ythfomoigaoffgaa.O
set_option linter.unusedSimpArgs false
set_option linter.unusedVariables false
open Go Go.Proofs.Ythfomoigaoffgaa.Ix

/-- a ground type -/
inductive Tr where
  | con : ByteArray → List Tr → Tr
/-- one after the other, as long as there is something -/
def allG (f : List ByteArray → Option Tr) : List (List ByteArray) → Option (List Tr)
  | [] => some []
  | x :: r => match f x with
    | none => none
    | some a => (allG f r).map (fun l => a :: l)
/-- the first constructor that answers -/
def firstG (need : ByteArray → Option (List (List ByteArray))) (f : List ByteArray → Option Tr) : List Td → Option Tr
  | [] => none
  | d :: r => match need d.1 with
    | none => firstG need f r
    | some l => match allG f l with
      | none => firstG need f r
      | some a => some (.con d.1 a)
def groundB (cs : List Cl) (ts : List Td) (ars : List Arx) : Nat → List ByteArray → Option Tr
  | 0, _ => none
  | d + 1, s => firstG (fun t => needB cs ts ars t s) (fun x => groundB cs ts ars d x) ts
theorem allG_some {f : List ByteArray → Option Tr} : ∀ (l : List (List ByteArray)), (allG f l).isSome = l.all (fun x => (f x).isSome)
  | [] => rfl
  | x :: r => by
    rw [allG, List.all_cons]
    cases f x with
    | none => rfl
    | some a => rw [Option.isSome_map, allG_some r]; rfl
theorem firstG_some {need : ByteArray → Option (List (List ByteArray))} {f : List ByteArray → Option Tr} : ∀ (l : List Td), (firstG need f l).isSome = l.any (fun d => match need d.1 with
    | none => false
    | some x => x.all (fun y => (f y).isSome))
  | [] => rfl
  | d :: r => by
    rw [firstG, List.any_cons]
    cases need d.1 with
    | none => rw [Bool.false_or]; exact firstG_some r
    | some l =>
      have h := allG_some (f := f) l
      dsimp only
      cases ha : allG f l with
      | none =>
        rw [ha] at h
        rw [← h]
        exact (firstG_some r).trans (Bool.false_or _).symm
      | some a =>
        rw [ha] at h
        rw [← h]
        rfl
theorem ground_mono {cs : List Cl} {ts : List Td} {ars : List Arx} : ∀ (d : Nat) (s : List ByteArray), (groundB cs ts ars d s).isSome = true → (groundB cs ts ars (d + 1) s).isSome = true
  | 0, s, h => by rw [groundB] at h; exact absurd h (by decide)
  | d + 1, s, h => by
    rw [groundB, firstG_some, List.any_eq_true] at h ⊢
    obtain ⟨t, ht, h⟩ := h
    refine ⟨t, ht, ?_⟩
    cases hn : needB cs ts ars t.1 s with
    | none => rw [hn] at h; exact h
    | some l =>
      rw [hn] at h
      exact List.all_eq_true.2 fun x hx => ground_mono d x (List.all_eq_true.1 h x hx)
end Go.Proofs.Ythfomoigaoffgaa.O
