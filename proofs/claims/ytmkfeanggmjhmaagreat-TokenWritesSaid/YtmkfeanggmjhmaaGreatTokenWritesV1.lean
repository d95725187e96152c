/- Texts of this claim, one behind the other: M, E, L1, L3, L5. -/
import Derived.Test.YtmkfeanggmjhmaaGreatWMore
import Derived.WalkKit
import Derived.Test.YtmkfeanggmjhmaaGreatPTokenWritesx7
import Derived.Test.YtmkfeanggmjhmaaGreatPTokenWritesx6
import Derived.Lib.Strings
import Derived.Lib.Hide
/- What the scanner of tokens computes, as plain functions on bytes and places.  It names no program. -/
namespace Go.Proofs.YtmkfeanggmjhmaaGreat.M
set_option linter.unusedSimpArgs false
set_option linter.unusedVariables false
open Go Go.RowKit Go.Proofs.YtmkfeanggmjhmaaGreatW.PrintWords

def letterB (c : Int) : Bool := decide (97 ≤ c ∧ c ≤ 122 ∨ 65 ≤ c ∧ c ≤ 90 ∨ c = 95)
def digitB (c : Int) : Bool := decide (48 ≤ c ∧ c ≤ 57)
def identB (c : Int) : Bool := letterB c || digitB c || decide (c = 39)
def signs : List UInt8 := [33, 35, 36, 37, 38, 42, 43, 45, 47, 58, 60, 61, 62, 64, 94, 124, 126]
def points : List UInt8 := [40, 41, 91, 93, 123, 125, 44, 59, 46]
def signB (c : Int) : Bool := signs.contains c.toNat.toUInt8
def pointB (c : Int) : Bool := points.contains c.toNat.toUInt8
def blankB (c : Int) : Bool := decide (c = 32 ∨ c = 9 ∨ c = 10 ∨ c = 13)

def skipW (p : Int → Bool) (s : ByteArray) : Nat → Nat → Nat
  | 0, i => i
  | d + 1, i => if p (bt s i) then skipW p s d (i + 1) else i
/-- the place behind the bytes from i on that are of a kind -/
def whileE (p : Int → Bool) (s : ByteArray) (i : Nat) : Nat := skipW p s (s.size - i) i

theorem whileE_end (p : Int → Bool) (s : ByteArray) (i : Nat) (h : s.size ≤ i) : whileE p s i = i := by
  unfold whileE; rw [show s.size - i = 0 by omega]; rfl
theorem whileE_hit (p : Int → Bool) (s : ByteArray) (i : Nat) (h : i < s.size) (hp : p (bt s i) = true) : whileE p s i = whileE p s (i + 1) := by
  unfold whileE; obtain ⟨d, hd⟩ : ∃ d, s.size - i = d + 1 := ⟨s.size - i - 1, by omega⟩
  rw [hd, show s.size - (i + 1) = d by omega, skipW, if_pos hp]
theorem whileE_miss (p : Int → Bool) (s : ByteArray) (i : Nat) (h : i < s.size) (hp : p (bt s i) = false) : whileE p s i = i := by
  unfold whileE; obtain ⟨d, hd⟩ : ∃ d, s.size - i = d + 1 := ⟨s.size - i - 1, by omega⟩
  rw [hd, skipW, if_neg (by rw [hp]; decide)]
theorem skipW_le (p : Int → Bool) (s : ByteArray) : ∀ d i, i ≤ skipW p s d i ∧ skipW p s d i ≤ i + d
  | 0, i => ⟨Nat.le_refl _, by simp [skipW]⟩
  | d + 1, i => by
    unfold skipW
    split
    · have := skipW_le p s d (i + 1); omega
    · omega
theorem whileE_ge (p : Int → Bool) (s : ByteArray) (i : Nat) : i ≤ whileE p s i := (skipW_le p s _ i).1
theorem whileE_le (p : Int → Bool) (s : ByteArray) (i : Nat) (h : i ≤ s.size) : whileE p s i ≤ s.size := by
  have := (skipW_le p s (s.size - i) i).2; unfold whileE; omega

/-- does a text stand at a place? -/
def preAt (s : ByteArray) (i : Nat) (t : List UInt8) : Bool := t.isPrefixOf (s.data.toList.drop i)
theorem preAt_le {s : ByteArray} {i : Nat} {t : List UInt8} (h : preAt s i t = true) (hi : i ≤ s.size) : i + t.length ≤ s.size := by
  unfold preAt at h
  have := (List.isPrefixOf_iff_prefix.1 h).length_le
  rw [List.length_drop] at this
  have e : s.data.toList.length = s.size := rfl
  omega

/-- the place behind the identifier at a place; the place itself, if there is none -/
def identE (s : ByteArray) (i : Nat) : Nat := if i < s.size then (if letterB (bt s i) then whileE identB s i else i) else i
theorem identE_ge (s : ByteArray) (i : Nat) : i ≤ identE s i := by
  unfold identE; split
  · split
    · exact whileE_ge _ _ _
    · omega
  · omega
theorem identE_le (s : ByteArray) (i : Nat) (h : i ≤ s.size) : identE s i ≤ s.size := by
  unfold identE; split
  · split
    · exact whileE_le _ _ _ h
    · omega
  · omega
def runE (s : ByteArray) (i : Nat) : Nat := whileE signB s i
/-- the place behind the named symbol at a place -/
def namedE (s : ByteArray) (i : Nat) : Nat :=
  if preAt s i [92, 60] then
    (if identE s (i + 2) = i + 2 ∨ identE s (i + 2) = s.size ∨ bt s (identE s (i + 2)) ≠ 62 then i else identE s (i + 2) + 1)
  else i
theorem namedE_ge (s : ByteArray) (i : Nat) : i ≤ namedE s i := by
  unfold namedE
  split
  · split
    · omega
    · have := identE_ge s (i + 2); omega
  · omega
theorem namedE_le (s : ByteArray) (i : Nat) (h : i ≤ s.size) : namedE s i ≤ s.size := by
  unfold namedE
  split
  · rename_i hp
    have := preAt_le hp h
    simp at this
    split
    · omega
    · rename_i hn
      have := identE_le s (i + 2) (by omega)
      have : identE s (i + 2) ≠ s.size := fun e => hn (.inr (.inl e))
      omega
  · omega

/-- one step through what nests: its bytes, and what it adds to the depth -/
def stepW (s : ByteArray) (b e : List UInt8) (i : Nat) : Nat := if preAt s i b then b.length else if preAt s i e then e.length else 1
def stepD (s : ByteArray) (b e : List UInt8) (i : Nat) : Int := if preAt s i b then 1 else if preAt s i e then -1 else 0
def nestF (s : ByteArray) (b e : List UInt8) : Nat → Nat → Int → Option Nat
  | 0, _, _ => none
  | d + 1, i, deep => if i < s.size then (if deep + stepD s b e i = 0 then some (i + stepW s b e i) else nestF s b e d (i + stepW s b e i) (deep + stepD s b e i)) else none
/-- the place behind what begins at a place, and nests -/
def nestE (s : ByteArray) (b e : List UInt8) (i : Nat) (deep : Int) : Option Nat := nestF s b e (s.size - i + 1) i deep

theorem stepW_pos (s : ByteArray) (b e : List UInt8) (i : Nat) (hb : 0 < b.length) (he : 0 < e.length) : 0 < stepW s b e i := by
  unfold stepW; split
  · exact hb
  · split
    · exact he
    · omega
theorem stepW_le (s : ByteArray) (b e : List UInt8) (i : Nat) (hi : i < s.size) : i + stepW s b e i ≤ s.size := by
  unfold stepW; split
  · rename_i h; exact preAt_le h (by omega)
  · split
    · rename_i h; exact preAt_le h (by omega)
    · omega
theorem stepD_range (s : ByteArray) (b e : List UInt8) (i : Nat) : -1 ≤ stepD s b e i ∧ stepD s b e i ≤ 1 := by
  unfold stepD; split
  · omega
  · split <;> omega
theorem nestF_more (s : ByteArray) (b e : List UInt8) (hb : 0 < b.length) (he : 0 < e.length) : ∀ d i deep, s.size - i + 1 ≤ d → nestF s b e d i deep = nestF s b e (s.size - i + 1) i deep := by
  intro d
  induction d using Nat.strongRecOn with
  | _ d ih =>
    intro i deep h
    obtain ⟨d', rfl⟩ : ∃ d', d = d' + 1 := ⟨d - 1, by omega⟩
    unfold nestF
    by_cases hi : i < s.size
    · rw [if_pos hi, if_pos hi]
      have hw := stepW_pos s b e i hb he
      have hl := stepW_le s b e i hi
      split
      · rfl
      · rw [ih d' (by omega) _ _ (by omega)]
        by_cases h' : s.size - i < d' + 1
        · rw [ih (s.size - i) (by omega) _ _ (by omega)]
        · omega
    · rw [if_neg hi, if_neg hi]
theorem nestE_end (s : ByteArray) (b e : List UInt8) (i : Nat) (deep : Int) (h : s.size ≤ i) : nestE s b e i deep = none := by
  unfold nestE nestF; rw [if_neg (by omega)]
theorem nestE_stop (s : ByteArray) (b e : List UInt8) (i : Nat) (deep : Int) (h : i < s.size) (hd : deep + stepD s b e i = 0) : nestE s b e i deep = some (i + stepW s b e i) := by
  unfold nestE nestF; rw [if_pos h, if_pos hd]
theorem nestE_step (s : ByteArray) (b e : List UInt8) (hb : 0 < b.length) (he : 0 < e.length) (i : Nat) (deep : Int) (h : i < s.size) (hd : deep + stepD s b e i ≠ 0) :
    nestE s b e i deep = nestE s b e (i + stepW s b e i) (deep + stepD s b e i) := by
  have hw := stepW_pos s b e i hb he
  have e1 : nestE s b e i deep = nestF s b e (s.size - i) (i + stepW s b e i) (deep + stepD s b e i) := by
    unfold nestE; rw [nestF, if_pos h, if_neg hd]
  rw [e1, nestF_more s b e hb he _ _ _ (by omega)]; rfl
theorem nestF_le (s : ByteArray) (b e : List UInt8) : ∀ d i deep r, i ≤ s.size → nestF s b e d i deep = some r → i ≤ r ∧ r ≤ s.size := by
  intro d
  induction d with
  | zero => intro i deep r _ h; simp [nestF] at h
  | succ d ih =>
    intro i deep r hi h
    unfold nestF at h
    split at h
    · rename_i hlt
      have hl := stepW_le s b e i hlt
      split at h
      · cases h; omega
      · have := ih _ _ _ hl h; omega
    · cases h
theorem nestE_le {s : ByteArray} {b e : List UInt8} {i : Nat} {deep : Int} {r : Nat} (hi : i ≤ s.size) (h : nestE s b e i deep = some r) : i ≤ r ∧ r ≤ s.size := nestF_le s b e _ i deep r hi h
theorem nestF_lt (s : ByteArray) (b e : List UInt8) (hb : 0 < b.length) (he : 0 < e.length) : ∀ d i deep r, i ≤ s.size → nestF s b e d i deep = some r → i < r := by
  intro d i deep r hi h
  cases d with
  | zero => simp [nestF] at h
  | succ d =>
    unfold nestF at h
    split at h
    · rename_i hlt
      have hl := stepW_le s b e i hlt
      have hp := stepW_pos s b e i hb he
      split at h
      · cases h; omega
      · have := nestF_le s b e _ _ _ _ hl h; omega
    · cases h
theorem nestE_lt {s : ByteArray} {b e : List UInt8} (hb : 0 < b.length) (he : 0 < e.length) {i : Nat} {deep : Int} {r : Nat} (hi : i ≤ s.size) (h : nestE s b e i deep = some r) : i < r := nestF_lt s b e hb he _ i deep r hi h

/-- the place behind blanks and comments; the place of a comment that has no end -/
def blanksF (s : ByteArray) : Nat → Nat → Except Nat Nat
  | 0, i => .ok i
  | d + 1, i => if preAt s (whileE blankB s i) [40, 42] then (match nestE s [40, 42] [42, 41] (whileE blankB s i) 0 with | none => .error (whileE blankB s i) | some e => blanksF s d e) else .ok (whileE blankB s i)
def blanksE (s : ByteArray) (i : Nat) : Except Nat Nat := blanksF s (s.size - i + 1) i
theorem blanksF_more (s : ByteArray) : ∀ d i, i ≤ s.size → s.size - i + 1 ≤ d → blanksF s d i = blanksF s (s.size - i + 1) i := by
  intro d
  induction d using Nat.strongRecOn with
  | _ d ih =>
    intro i hi h
    obtain ⟨d', rfl⟩ : ∃ d', d = d' + 1 := ⟨d - 1, by omega⟩
    unfold blanksF
    have h1 := whileE_ge blankB s i
    have h2 := whileE_le blankB s i hi
    split
    · split
      · rfl
      · rename_i e he
        have h3 := nestE_lt (by decide) (by decide) h2 he
        have h4 := nestE_le h2 he
        by_cases hd : d' = s.size - i
        · rw [hd]
        · rw [ih d' (by omega) e (by omega) (by omega), ih (s.size - i) (by omega) e (by omega) (by omega)]
    · rfl
theorem blanksE_none (s : ByteArray) (i : Nat) (h : preAt s (whileE blankB s i) [40, 42] = false) : blanksE s i = .ok (whileE blankB s i) := by
  unfold blanksE blanksF; rw [h]; rfl
theorem blanksE_err (s : ByteArray) (i : Nat) (h : preAt s (whileE blankB s i) [40, 42] = true) (hn : nestE s [40, 42] [42, 41] (whileE blankB s i) 0 = none) : blanksE s i = .error (whileE blankB s i) := by
  unfold blanksE blanksF; rw [h, if_pos rfl, hn]
theorem blanksE_step (s : ByteArray) (i : Nat) (hi : i ≤ s.size) (h : preAt s (whileE blankB s i) [40, 42] = true) {e : Nat} (hn : nestE s [40, 42] [42, 41] (whileE blankB s i) 0 = some e) : blanksE s i = blanksE s e := by
  have h1 := whileE_ge blankB s i
  have h2 := whileE_le blankB s i hi
  have h3 := nestE_lt (by decide) (by decide) h2 hn
  have h4 := nestE_le h2 hn
  have : blanksE s i = blanksF s (s.size - i) e := by unfold blanksE; rw [blanksF, h, if_pos rfl, hn]
  rw [this, blanksF_more s _ _ (by omega) (by omega)]; rfl
theorem blanksF_le (s : ByteArray) : ∀ d i, i ≤ s.size → (∀ r, blanksF s d i = .ok r → i ≤ r ∧ r ≤ s.size) ∧ (∀ r, blanksF s d i = .error r → i ≤ r ∧ r ≤ s.size) := by
  intro d
  induction d with
  | zero => intro i hi; exact ⟨fun r h => by simp [blanksF] at h; omega, fun r h => by simp [blanksF] at h⟩
  | succ d ih =>
    intro i hi
    have h1 := whileE_ge blankB s i
    have h2 := whileE_le blankB s i hi
    refine ⟨fun r h => ?_, fun r h => ?_⟩
    all_goals
      unfold blanksF at h
      split at h
      · split at h
        · cases h <;> omega
        · rename_i e he
          have h3 := nestE_lt (by decide) (by decide) h2 he
          have h4 := nestE_le h2 he
          first | (have := (ih e (by omega)).1 r h; omega) | (have := (ih e (by omega)).2 r h; omega)
      · cases h <;> omega
theorem blanksE_le {s : ByteArray} {i r : Nat} (hi : i ≤ s.size) (h : blanksE s i = .ok r) : i ≤ r ∧ r ≤ s.size := (blanksF_le s _ i hi).1 r h
theorem blanksE_le' {s : ByteArray} {i r : Nat} (hi : i ≤ s.size) (h : blanksE s i = .error r) : i ≤ r ∧ r ≤ s.size := (blanksF_le s _ i hi).2 r h

/-- the place behind a dot and digits -/
def indexE (s : ByteArray) (i : Nat) : Nat := if i < s.size then (if bt s i = 46 then (if i + 1 < whileE digitB s (i + 1) then whileE digitB s (i + 1) else i) else i) else i
/-- names: the kind, and the place behind -/
def wordF (s : ByteArray) : Nat → Int → Nat → Int × Nat
  | 0, k, e => (k, e)
  | d + 1, k, e => if e < s.size then (if bt s e = 46 then (if identE s (e + 1) = e + 1 then (k, e) else wordF s d 2 (identE s (e + 1))) else (k, e)) else (k, e)
def wordE (s : ByteArray) (k : Int) (e : Nat) : Int × Nat := wordF s (s.size - e) k e
def namesE (s : ByteArray) (i : Nat) : Int × Nat := if i < identE s i then wordE s 1 (identE s i) else (1, identE s i)
theorem wordE_end (s : ByteArray) (k : Int) (e : Nat) (h : s.size ≤ e) : wordE s k e = (k, e) := by
  unfold wordE; rw [show s.size - e = 0 by omega]; rfl
theorem wordE_dot (s : ByteArray) (k : Int) (e : Nat) (h : e < s.size) (hd : bt s e ≠ 46) : wordE s k e = (k, e) := by
  unfold wordE; obtain ⟨d, hd'⟩ : ∃ d, s.size - e = d + 1 := ⟨s.size - e - 1, by omega⟩
  rw [hd', wordF, if_pos h, if_neg hd]
theorem wordE_stop (s : ByteArray) (k : Int) (e : Nat) (h : e < s.size) (hi : identE s (e + 1) = e + 1) : wordE s k e = (k, e) := by
  unfold wordE; obtain ⟨d, hd'⟩ : ∃ d, s.size - e = d + 1 := ⟨s.size - e - 1, by omega⟩
  rw [hd', wordF, if_pos h, if_pos hi]; split <;> rfl
theorem wordF_more (s : ByteArray) : ∀ d k e, e ≤ s.size → s.size - e ≤ d → wordF s d k e = wordF s (s.size - e) k e := by
  intro d
  induction d using Nat.strongRecOn with
  | _ d ih =>
    intro k e he h
    by_cases hlt : e < s.size
    · obtain ⟨d', rfl⟩ : ∃ d', d = d' + 1 := ⟨d - 1, by omega⟩
      obtain ⟨m, hm⟩ : ∃ m, s.size - e = m + 1 := ⟨s.size - e - 1, by omega⟩
      rw [hm, wordF, wordF, if_pos hlt, if_pos hlt]
      have h1 := identE_ge s (e + 1)
      have h2 := identE_le s (e + 1) (by omega)
      split
      · split
        · rfl
        · by_cases hd : d' = m
          · rw [hd]
          · rw [ih d' (by omega) _ _ h2 (by omega), ih m (by omega) _ _ h2 (by omega)]
      · rfl
    · rw [show s.size - e = 0 by omega]
      cases d with
      | zero => rfl
      | succ d => unfold wordF; rw [if_neg hlt]
theorem wordE_step (s : ByteArray) (k : Int) (e : Nat) (h : e < s.size) (hd : bt s e = 46) (hi : identE s (e + 1) ≠ e + 1) : wordE s k e = wordE s 2 (identE s (e + 1)) := by
  have h1 := identE_ge s (e + 1)
  have h2 := identE_le s (e + 1) (by omega)
  have e1 : wordE s k e = wordF s (s.size - e - 1) 2 (identE s (e + 1)) := by
    unfold wordE; obtain ⟨d, hd'⟩ : ∃ d, s.size - e = d + 1 := ⟨s.size - e - 1, by omega⟩
    rw [hd', wordF, if_pos h, if_pos hd, if_neg hi]; rfl
  rw [e1, wordF_more s _ _ _ h2 (by omega)]; rfl
theorem wordF_le (s : ByteArray) : ∀ d k e, e ≤ s.size → e ≤ (wordF s d k e).2 ∧ (wordF s d k e).2 ≤ s.size := by
  intro d
  induction d with
  | zero => intro k e he; exact ⟨Nat.le_refl _, he⟩
  | succ d ih =>
    intro k e he
    unfold wordF
    split
    · split
      · split
        · exact ⟨Nat.le_refl _, he⟩
        · have h1 := identE_ge s (e + 1)
          have h2 := identE_le s (e + 1) (by omega)
          have := ih 2 _ h2
          omega
      · exact ⟨Nat.le_refl _, he⟩
    · exact ⟨Nat.le_refl _, he⟩
theorem namesE_le (s : ByteArray) (i : Nat) (hi : i ≤ s.size) : i ≤ (namesE s i).2 ∧ (namesE s i).2 ≤ s.size := by
  have h1 := identE_ge s i
  have h2 := identE_le s i hi
  unfold namesE wordE
  split
  · have := wordF_le s (s.size - identE s i) 1 _ h2; omega
  · omega
theorem indexE_le (s : ByteArray) (i : Nat) (hi : i ≤ s.size) : i ≤ indexE s i ∧ indexE s i ≤ s.size := by
  unfold indexE
  split
  · have := whileE_le digitB s (i + 1) (by omega)
    split
    · split <;> omega
    · omega
  · omega
/-- what a mark stands ahead of -/
def markE (s : ByteArray) (i : Nat) (m : List UInt8) : Option Nat := if preAt s i m then (if i + m.length < identE s (i + m.length) then some (identE s (i + m.length)) else none) else none
def varsE (s : ByteArray) (i : Nat) : Int × Nat :=
  match markE s i [39] with
  | some e => (3, e)
  | none => match markE s i [63, 39] with
    | some e => (5, indexE s e)
    | none => match markE s i [63] with
      | some e => (4, indexE s e)
      | none => (0, i)
def markV (s : ByteArray) (i : Nat) (m : List UInt8) : Nat × Bool := if preAt s i m then (identE s (i + m.length), decide (i + m.length < identE s (i + m.length))) else (0, false)
theorem markV_some {s : ByteArray} {i : Nat} {m : List UInt8} {e : Nat} (h : markE s i m = some e) : markV s i m = (e, true) := by
  unfold markE at h; unfold markV
  split at h
  · rename_i hp
    split at h
    · rename_i hlt; cases h; rw [if_pos hp]; simp [hlt]
    · cases h
  · cases h
theorem markV_none {s : ByteArray} {i : Nat} {m : List UInt8} (h : markE s i m = none) : ∃ e, markV s i m = (e, false) := by
  unfold markE at h; unfold markV
  split at h
  · rename_i hp
    split at h
    · cases h
    · rename_i hlt; rw [if_pos hp]; exact ⟨identE s (i + m.length), by simp [hlt]⟩
  · rename_i hp; rw [if_neg hp]; exact ⟨0, rfl⟩
theorem markE_le {s : ByteArray} {i : Nat} {m : List UInt8} {e : Nat} (hi : i ≤ s.size) (h : markE s i m = some e) : i ≤ e ∧ e ≤ s.size := by
  unfold markE at h
  split at h
  · rename_i hp
    have := preAt_le hp hi
    split at h
    · cases h
      have := identE_ge s (i + m.length)
      have := identE_le s (i + m.length) (by omega)
      omega
    · cases h
  · cases h
theorem varsE_le (s : ByteArray) (i : Nat) (hi : i ≤ s.size) : i ≤ (varsE s i).2 ∧ (varsE s i).2 ≤ s.size := by
  unfold varsE
  split
  · rename_i e h; exact markE_le hi h
  · split
    · rename_i e h; have := markE_le hi h; have := indexE_le s e (by omega); simp only; omega
    · split
      · rename_i e h; have := markE_le hi h; have := indexE_le s e (by omega); simp only; omega
      · simp only; omega
def symE (s : ByteArray) (i : Nat) : Nat := if max (namedE s i) (runE s i) = i then (if pointB (bt s i) then i + 1 else i) else max (namedE s i) (runE s i)

/-- the string that begins at a place (its text so far), and the place behind it; none: it does not end -/
def textF (s : ByteArray) : Nat → Nat → List UInt8 → Option (List UInt8 × Nat)
  | 0, _, _ => none
  | d + 1, i, out =>
    if i < s.size then
      (if bt s i = 10 then none
       else if bt s i = 34 then some (out, i + 1)
       else if bt s i = 92 then
         (if i + 1 < s.size then
            (if bt s ((i + 1 : Nat) : Int) = 110 then textF s d (i + 2) (out ++ [10])
             else if bt s ((i + 1 : Nat) : Int) = 34 ∨ bt s ((i + 1 : Nat) : Int) = 92 then textF s d (i + 2) (out ++ [(bt s ((i + 1 : Nat) : Int)).toNat.toUInt8])
             else none)
          else none)
       else textF s d (i + 1) (out ++ [(bt s i).toNat.toUInt8]))
    else none
def textE (s : ByteArray) (i : Nat) (out : List UInt8) : Option (List UInt8 × Nat) := textF s (s.size - i) i out
theorem textE_end (s : ByteArray) (i : Nat) (out : List UInt8) (h : s.size ≤ i) : textE s i out = none := by
  unfold textE; rw [show s.size - i = 0 by omega]; rfl
theorem textF_more (s : ByteArray) : ∀ d i out, s.size - i ≤ d → textF s d i out = textF s (s.size - i) i out := by
  intro d
  induction d using Nat.strongRecOn with
  | _ d ih =>
    intro i out h
    by_cases hlt : i < s.size
    · obtain ⟨d', rfl⟩ : ∃ d', d = d' + 1 := ⟨d - 1, by omega⟩
      obtain ⟨m, hm⟩ : ∃ m, s.size - i = m + 1 := ⟨s.size - i - 1, by omega⟩
      by_cases hd : d' = m
      · rw [hd, hm]
      · rw [hm]
        unfold textF
        rw [ih d' (by omega) (i + 2) _ (by omega), ih d' (by omega) (i + 2) _ (by omega), ih d' (by omega) (i + 1) _ (by omega), ih m (by omega) (i + 2) _ (by omega), ih m (by omega) (i + 2) _ (by omega), ih m (by omega) (i + 1) _ (by omega)]
    · rw [show s.size - i = 0 by omega]
      cases d with
      | zero => rfl
      | succ d => unfold textF; rw [if_neg hlt]
theorem textE_eq (s : ByteArray) (i : Nat) (out : List UInt8) (hlt : i < s.size) : textE s i out =
      (if bt s i = 10 then none
       else if bt s i = 34 then some (out, i + 1)
       else if bt s i = 92 then
         (if i + 1 < s.size then
            (if bt s ((i + 1 : Nat) : Int) = 110 then textE s (i + 2) (out ++ [10])
             else if bt s ((i + 1 : Nat) : Int) = 34 ∨ bt s ((i + 1 : Nat) : Int) = 92 then textE s (i + 2) (out ++ [(bt s ((i + 1 : Nat) : Int)).toNat.toUInt8])
             else none)
          else none)
       else textE s (i + 1) (out ++ [(bt s i).toNat.toUInt8])) := by
  obtain ⟨m, hm⟩ : ∃ m, s.size - i = m + 1 := ⟨s.size - i - 1, by omega⟩
  have e : textE s i out = textF s (m + 1) i out := by unfold textE; rw [hm]
  rw [e, textF, if_pos hlt]
  unfold textE
  rw [textF_more s m (i + 2) _ (by omega), textF_more s m (i + 2) _ (by omega), textF_more s m (i + 1) _ (by omega)]
end Go.Proofs.YtmkfeanggmjhmaaGreat.M
namespace Go.Proofs.YtmkfeanggmjhmaaGreat.M
set_option linter.unusedSimpArgs false
set_option linter.unusedVariables false
open Go Go.RowKit Go.Proofs.YtmkfeanggmjhmaaGreatW.PrintWords

theorem nestF_pos (s : ByteArray) (b e : List UInt8) : ∀ d i deep r, 1 ≤ deep → i ≤ s.size → nestF s b e d i deep = some r → i + e.length ≤ r := by
  intro d
  induction d with
  | zero => intro i deep r _ _ h; simp [nestF] at h
  | succ d ih =>
    intro i deep r h1 hi h
    unfold nestF at h
    split at h
    · rename_i hlt
      have hl := stepW_le s b e i hlt
      split at h
      · rename_i hz
        cases h
        unfold stepD at hz
        unfold stepW
        split at hz
        · omega
        · rename_i hb
          rw [if_neg hb]
          split at hz
          · rename_i he; rw [if_pos he]; exact Nat.le_refl _
          · omega
      · rename_i hz
        have hd := stepD_range s b e i
        have := ih _ _ _ (by omega) hl h
        omega
    · cases h
theorem nestE_both {s : ByteArray} {b e : List UInt8} {i r : Nat} (hi : i ≤ s.size) (hp : preAt s i b = true) (h : nestE s b e i 0 = some r) : i + b.length + e.length ≤ r := by
  unfold nestE nestF at h
  have hd : stepD s b e i = 1 := by unfold stepD; rw [if_pos hp]
  have hw : stepW s b e i = b.length := by unfold stepW; rw [if_pos hp]
  rw [hd, hw] at h
  split at h
  · rename_i hlt
    have := preAt_le hp hi
    rw [if_neg (by decide)] at h
    exact nestF_pos s b e _ _ _ _ (by decide) this h
  · cases h

def opened : List UInt8 := [92, 60, 111, 112, 101, 110, 62]
def closed : List UInt8 := [92, 60, 99, 108, 111, 115, 101, 62]
def readE (s : ByteArray) (i : Nat) : Nat → Int × Nat
  | 0 => namesE s i
  | 1 => varsE s i
  | 2 => (6, whileE digitB s i)
  | _ => (7, symE s i)
def bestE (s : ByteArray) (i : Nat) : Nat → Int × Nat
  | 0 => (0, i)
  | j + 1 => if (bestE s i j).2 < (readE s i j).2 then readE s i j else bestE s i j
theorem symE_le (s : ByteArray) (i : Nat) (hi : i < s.size) : i ≤ symE s i ∧ symE s i ≤ s.size := by
  have h1 := namedE_ge s i
  have h2 := namedE_le s i (by omega)
  have h3 := whileE_ge signB s i
  have h4 := whileE_le signB s i (by omega)
  unfold symE runE
  split
  · split <;> omega
  · omega
theorem readE_le (s : ByteArray) (i : Nat) (hi : i < s.size) (j : Nat) : i ≤ (readE s i j).2 ∧ (readE s i j).2 ≤ s.size := by
  unfold readE
  split
  · exact namesE_le s i (by omega)
  · exact varsE_le s i (by omega)
  · exact ⟨whileE_ge _ _ _, whileE_le _ _ _ (by omega)⟩
  · exact symE_le s i hi
theorem bestE_le (s : ByteArray) (i : Nat) (hi : i < s.size) : ∀ j, i ≤ (bestE s i j).2 ∧ (bestE s i j).2 ≤ s.size
  | 0 => ⟨Nat.le_refl _, by simp only [bestE]; omega⟩
  | j + 1 => by
    unfold bestE
    split
    · exact readE_le s i hi j
    · exact bestE_le s i hi j
/-- the token at a place, and the place behind it; or the code of the error -/
def oneE (kw : List UInt8 → Bool) (s : ByteArray) (i : Nat) : Except Int ((Int × ByteArray) × Nat) :=
  if bt s i = 34 then (match textE s (i + 1) [] with | some (l, j) => .ok ((8, ⟨l.toArray⟩), j) | none => .error 161)
  else if preAt s i opened then (match nestE s opened closed i 0 with | some e => .ok ((9, s.extract (i + 7) (e - 8)), e) | none => .error 161)
  else if (bestE s i 4).2 = i ∨ (s.extract i (bestE s i 4).2).data.toList = closed then .error 160
  else .ok ((if ((bestE s i 4).1 = 1 ∨ (bestE s i 4).1 = 7) ∧ kw (s.extract i (bestE s i 4).2).data.toList = true then 10 else (bestE s i 4).1, s.extract i (bestE s i 4).2), (bestE s i 4).2)
theorem oneE_text {kw : List UInt8 → Bool} {s : ByteArray} {i : Nat} (h : bt s i = 34) : oneE kw s i = (match textE s (i + 1) [] with | some (l, j) => .ok ((8, ⟨l.toArray⟩), j) | none => .error 161) := by
  unfold oneE; rw [if_pos h]
theorem oneE_quote {kw : List UInt8 → Bool} {s : ByteArray} {i : Nat} (h : bt s i ≠ 34) (hp : preAt s i opened = true) : oneE kw s i = (match nestE s opened closed i 0 with | some e => .ok ((9, s.extract (i + 7) (e - 8)), e) | none => .error 161) := by
  unfold oneE; rw [if_neg h, if_pos hp]
theorem oneE_none {kw : List UInt8 → Bool} {s : ByteArray} {i : Nat} (h : bt s i ≠ 34) (hp : preAt s i opened = false) {k : Int} {e : Nat} (hb : bestE s i 4 = (k, e)) (hn : e = i ∨ (s.extract i e).data.toList = closed) : oneE kw s i = .error 160 := by
  unfold oneE; rw [if_neg h, if_neg (by rw [hp]; decide), hb, if_pos hn]
theorem oneE_some {kw : List UInt8 → Bool} {s : ByteArray} {i : Nat} (h : bt s i ≠ 34) (hp : preAt s i opened = false) {k : Int} {e : Nat} (hb : bestE s i 4 = (k, e)) (hn : e ≠ i) (hc : (s.extract i e).data.toList ≠ closed) :
    oneE kw s i = .ok ((if (k = 1 ∨ k = 7) ∧ kw (s.extract i e).data.toList = true then 10 else k, s.extract i e), e) := by
  unfold oneE; rw [if_neg h, if_neg (by rw [hp]; decide), hb, if_neg (fun h => h.elim hn hc)]

/-- is a text a keyword? -/
def kwB (s : ByteArray) : Bool :=
  !(decide (s.size = 0) || decide (40 < s.size) || decide (s.data.toList = opened) || decide (s.data.toList = closed)) &&
    (decide (identE s 0 = s.size) || decide (runE s 0 = s.size) || decide (namedE s 0 = s.size) || (decide (s.size = 1) && pointB (bt s 0)))
/-- the error of keywords, those of which have been met -/
def checkL : List ByteArray → List ByteArray → Int
  | _, [] => 0
  | met, s :: r => if kwB s then (if met.any (fun t => s.data.toList == t.data.toList) then 10 else checkL (met ++ [s]) r) else 163
def checkE (l : List ByteArray) : Int := if 500 < l.length then 5 else checkL [] l
end Go.Proofs.YtmkfeanggmjhmaaGreat.M
namespace Go.Proofs.YtmkfeanggmjhmaaGreat.M
set_option linter.unusedSimpArgs false
set_option linter.unusedVariables false
open Go Go.RowKit Go.Proofs.YtmkfeanggmjhmaaGreatW.PrintWords

/-- a token: its kind, its text, its place -/
structure Tok where
  kind : Int
  text : ByteArray
  at_ : Nat

theorem textF_lt (s : ByteArray) : ∀ d i out r, textF s d i out = some r → i < r.2 ∧ r.2 ≤ s.size := by
  intro d
  induction d with
  | zero => intro i out r h; simp [textF] at h
  | succ d ih =>
    intro i out r h
    unfold textF at h
    split at h
    · rename_i hlt
      split at h
      · cases h
      · split at h
        · cases h; exact ⟨Nat.lt_succ_self _, hlt⟩
        · split at h
          · split at h
            · split at h
              · have := ih _ _ _ h; omega
              · split at h
                · have := ih _ _ _ h; omega
                · cases h
            · cases h
          · have := ih _ _ _ h; omega
    · cases h
theorem textE_lt {s : ByteArray} {i : Nat} {out : List UInt8} {r : List UInt8 × Nat} (h : textE s i out = some r) : i < r.2 ∧ r.2 ≤ s.size := textF_lt s _ i out r h
theorem oneE_lt {kw : List UInt8 → Bool} {s : ByteArray} {i : Nat} (hi : i < s.size) {r : (Int × ByteArray) × Nat} (h : oneE kw s i = .ok r) : i < r.2 ∧ r.2 ≤ s.size := by
  unfold oneE at h
  split at h
  · split at h
    · rename_i l j hj
      cases h
      have := textE_lt hj
      simp only at this ⊢
      omega
    · cases h
  · split at h
    · rename_i hp
      split at h
      · rename_i e he
        cases h
        have h1 := nestE_le (by omega) he
        have h2 := nestE_lt (by decide) (by decide) (by omega) he
        simp only
        omega
      · cases h
    · split at h
      · cases h
      · rename_i hn
        have hb := bestE_le s i hi 4
        cases h
        simp only
        have : (bestE s i 4).2 ≠ i := fun e => hn (.inl e)
        omega

/-- the tokens from a place on that begins none but a token, behind others; and the error, if there is one: its place, its code -/
def scanF (kw : List UInt8 → Bool) (s : ByteArray) : Nat → Nat → List Tok → List Tok × Option (Nat × Int)
  | 0, _, pre => (pre, none)
  | d + 1, i, pre =>
    if i < s.size then
      (match oneE kw s i with
       | .error c => (pre, some (i, c))
       | .ok ((k, t), e) => match blanksE s e with
         | .error p => (pre ++ [⟨k, t, i⟩], some (p, 162))
         | .ok j => scanF kw s d j (pre ++ [⟨k, t, i⟩]))
    else (pre, none)
def scanFrom (kw : List UInt8 → Bool) (s : ByteArray) (i : Nat) (pre : List Tok) : List Tok × Option (Nat × Int) := scanF kw s (s.size - i + 1) i pre
def scanE (kw : List UInt8 → Bool) (s : ByteArray) : List Tok × Option (Nat × Int) :=
  match blanksE s 0 with
  | .error p => ([], some (p, 162))
  | .ok j => scanFrom kw s j []
theorem scanF_more (kw : List UInt8 → Bool) (s : ByteArray) : ∀ d i pre, s.size - i + 1 ≤ d → scanF kw s d i pre = scanF kw s (s.size - i + 1) i pre := by
  intro d
  induction d using Nat.strongRecOn with
  | _ d ih =>
    intro i pre h
    obtain ⟨d', rfl⟩ : ∃ d', d = d' + 1 := ⟨d - 1, by omega⟩
    unfold scanF
    split
    · rename_i hlt
      split
      · rfl
      · rename_i k t e ho
        have h1 := oneE_lt hlt ho
        simp only at h1
        split
        · rfl
        · rename_i j hb
          have h2 := blanksE_le h1.2 hb
          by_cases hd : d' = s.size - i
          · rw [hd]
          · rw [ih d' (by omega) j _ (by omega), ih (s.size - i) (by omega) j _ (by omega)]
    · rfl
theorem scanFrom_end (kw : List UInt8 → Bool) (s : ByteArray) (i : Nat) (pre : List Tok) (h : s.size ≤ i) : scanFrom kw s i pre = (pre, none) := by
  unfold scanFrom scanF; rw [if_neg (by omega)]
theorem scanFrom_eq (kw : List UInt8 → Bool) (s : ByteArray) (i : Nat) (pre : List Tok) (h : i < s.size) : scanFrom kw s i pre =
      (match oneE kw s i with
       | .error c => (pre, some (i, c))
       | .ok ((k, t), e) => match blanksE s e with
         | .error p => (pre ++ [⟨k, t, i⟩], some (p, 162))
         | .ok j => scanFrom kw s j (pre ++ [⟨k, t, i⟩])) := by
  have e0 : scanFrom kw s i pre = scanF kw s (s.size - i + 1) i pre := rfl
  rw [e0, scanF, if_pos h]
  split
  · rfl
  · rename_i k t e ho
    have h1 := oneE_lt h ho
    simp only at h1
    split
    · rfl
    · rename_i j hb
      have h2 := blanksE_le h1.2 hb
      rw [scanF_more kw s _ _ _ (by omega)]; rfl
end Go.Proofs.YtmkfeanggmjhmaaGreat.M

/- What functions over fuel give in the end; numbers that fit in 64 bits.  It names no program. -/
namespace Go.Proofs.YtmkfeanggmjhmaaGreat.E
set_option linter.unusedSimpArgs false
set_option linter.unusedVariables false
open Go Go.RowKit

/-- with enough fuel g gives r -/
def Evt {α : Type} (g : Nat → Option α) (r : α) : Prop := ∃ k0, ∀ k, k0 ≤ k → g k = some r
section
variable {α β : Type} {g h : Nat → Option α} {r : α}
theorem Evt.const (r : α) : Evt (fun _ => some r) r := ⟨0, fun _ _ => rfl⟩
theorem Evt.of (o : Option α) (h : o = some r) : Evt (fun _ => o) r := ⟨0, fun _ _ => h⟩
theorem Evt.congr (hg : Evt g r) (h1 : ∀ k, h k = g k) : Evt h r := by
  obtain ⟨k0, h0⟩ := hg
  exact ⟨k0, fun k hk => (h1 k).trans (h0 k hk)⟩
/-- a step of fuel -/
theorem Evt.succ (h1 : ∀ k, h (k + 1) = g k) (hg : Evt g r) : Evt h r := by
  obtain ⟨k0, h0⟩ := hg
  refine ⟨k0 + 1, fun k hk => ?_⟩
  obtain ⟨k, rfl⟩ : ∃ j, k = j + 1 := ⟨k - 1, by omega⟩
  rw [h1, h0 k (by omega)]
theorem Evt.bind {s : β} {f : Nat → α → Option β} (hg : Evt g r) (hf : Evt (fun k => f k r) s) : Evt (fun k => (g k).bind (f k)) s := by
  obtain ⟨k0, h0⟩ := hg
  obtain ⟨k1, h1⟩ := hf
  refine ⟨max k0 k1, fun k hk => ?_⟩
  show (g k).bind (f k) = some s
  rw [h0 k (by omega), Option.bind_some]
  exact h1 k (by omega)
theorem Evt.tt {c : Prop} [Decidable c] (hc : c) (hg : Evt g r) : Evt (fun k => if c then g k else h k) r := hg.congr (fun k => if_pos hc)
theorem Evt.ff {c : Prop} [Decidable c] (hc : ¬ c) (hg : Evt h r) : Evt (fun k => if c then g k else h k) r := hg.congr (fun k => if_neg hc)
theorem Evt.at_ (hg : Evt g r) : ∃ k, g k = some r := by
  obtain ⟨k0, h0⟩ := hg
  exact ⟨k0, h0 k0 (Nat.le_refl _)⟩
theorem Evt.two {s : β} {f : Nat → Option β} (hg : Evt g r) (hf : Evt f s) : ∃ k, g k = some r ∧ f k = some s := by
  obtain ⟨k0, h0⟩ := hg
  obtain ⟨k1, h1⟩ := hf
  exact ⟨max k0 k1, h0 _ (by omega), h1 _ (by omega)⟩
theorem Evt.eq {s : α} (hg : Evt g r) (e : r = s) : Evt g s := e ▸ hg
end
theorem w64 {x : Int} (h1 : -9223372036854775808 ≤ x) (h2 : x ≤ 9223372036854775807) : wrap64 x = x := by
  unfold wrap64
  omega
end Go.Proofs.YtmkfeanggmjhmaaGreat.E

/- The printed reference of tokens is the plain scanner: names, signs, keywords. -/
namespace Go.Proofs.YtmkfeanggmjhmaaGreat.L
set_option linter.unusedSimpArgs false
set_option linter.unusedVariables false
open Go Go.RowKit Go.Proofs.YtmkfeanggmjhmaaGreatW.PrintWords Go.Proofs.YtmkfeanggmjhmaaGreatW.PrintLast Go.Proofs.YtmkfeanggmjhmaaGreatW.PrintMore
open Go.Proofs.YtmkfeanggmjhmaaGreat.M Go.Proofs.YtmkfeanggmjhmaaGreat.E Go.Proofs.YtmkfeanggmjhmaaGreat.PTokenWrites

theorem letter_eq (c : Int) : triforiumref14_letter.f c = some (letterB c) := by
  unfold triforiumref14_letter.f letterB
  repeat' split
  all_goals
    first
    | (rw [decide_eq_true (by omega)]; done)
    | (by_cases h : c = 95
       · subst h; rfl
       · rw [decide_eq_false (by omega), beq_eq_false_iff_ne.2 h])
theorem digit_eq (c : Int) : triforiumref14_digit.f c = some (digitB c) := by
  unfold triforiumref14_digit.f digitB
  split
  · congr 1; simp; omega
  · rw [decide_eq_false (by omega)]

theorem bt_nat (s : ByteArray) (i : Nat) (h : i < s.size) : bt s i = ((s[i]'h).toNat : Int) := by unfold bt; simp [h]

theorem ident_loop (s : ByteArray) (i : Nat) (hs : s.size ≤ 1000000000000) : ∀ d j : Nat, s.size - j ≤ d → i < j → j ≤ 2000000000000 → Evt (fun k => triforiumref14_ident.l0 k s i j) (whileE identB s j : Int) := by
  intro d
  induction d with
  | zero =>
    intro j hd hij hj
    refine Evt.succ (fun k => rfl) ?_
    refine Evt.ff (by omega) ?_
    rw [whileE_end _ _ _ (by omega)]
    exact Evt.const _
  | succ d ih =>
    intro j hd hij hj
    by_cases hlt : j < s.size
    · refine Evt.succ (fun k => rfl) ?_
      refine Evt.tt (by omega) (Evt.tt (by omega) ?_)
      refine Evt.bind (Evt.of _ (letter_eq _)) ?_
      have hw : wrap64 ((j : Int) + 1) = ((j + 1 : Nat) : Int) := w64 (by omega) (by omega)
      by_cases h1 : letterB (bt s j) = true
      · refine Evt.tt h1 ?_
        rw [hw, whileE_hit identB s j hlt (by unfold identB; rw [h1]; rfl)]
        exact ih (j + 1) (by omega) (by omega) (by omega)
      · refine Evt.ff h1 (Evt.tt (by omega) ?_)
        refine Evt.bind (Evt.of _ (digit_eq _)) ?_
        by_cases h2 : digitB (bt s j) = true
        · refine Evt.tt h2 ?_
          rw [hw, whileE_hit identB s j hlt (by unfold identB; rw [h2]; simp)]
          exact ih (j + 1) (by omega) (by omega) (by omega)
        · refine Evt.ff h2 ?_
          by_cases h3 : bt s j = 39
          · refine Evt.tt h3 ?_
            rw [hw, whileE_hit identB s j hlt (by unfold identB; rw [h3]; rfl)]
            exact ih (j + 1) (by omega) (by omega) (by omega)
          · refine Evt.ff h3 ?_
            rw [whileE_miss identB s j hlt (by unfold identB; rw [Bool.eq_false_iff.2 h1, Bool.eq_false_iff.2 h2, decide_eq_false h3]; rfl)]
            exact Evt.const _
    · refine Evt.succ (fun k => rfl) ?_
      refine Evt.ff (by omega) ?_
      rw [whileE_end _ _ _ (by omega)]
      exact Evt.const _

theorem ident_ev (s : ByteArray) (i : Nat) (hs : s.size ≤ 1000000000000) (hi : i ≤ 1000000000000) : Evt (fun k => triforiumref14_ident.f k s i) (identE s i : Int) := by
  unfold triforiumref14_ident.f identE
  by_cases hlt : i < s.size
  · rw [if_pos hlt]
    refine Evt.succ (fun k => rfl) ?_
    refine Evt.tt (by omega) (Evt.tt (by omega) ?_)
    refine Evt.bind (Evt.of _ (letter_eq _)) ?_
    have hw : wrap64 ((i : Int) + 1) = ((i + 1 : Nat) : Int) := w64 (by omega) (by omega)
    by_cases h1 : letterB (bt s i) = true
    · refine Evt.tt h1 ?_
      rw [hw, if_pos h1, whileE_hit identB s i hlt (by unfold identB; rw [h1]; rfl)]
      exact ident_loop s i hs _ (i + 1) (Nat.le_refl _) (by omega) (by omega)
    · refine Evt.ff h1 (Evt.ff (by omega) ?_)
      rw [if_neg h1]
      exact Evt.const _
  · rw [if_neg hlt]
    refine Evt.succ (fun k => rfl) ?_
    exact Evt.ff (by omega) (Evt.const _)

def hasB (t : ByteArray) (c : Int) : Bool := t.data.toList.any (fun b => decide ((b.toNat : Int) = c))
theorem has_loop (t : ByteArray) (c : Int) (hs : t.size ≤ 1000000000000) : ∀ d j : Nat, t.size - j ≤ d → j ≤ 2000000000000 → Evt (fun k => triforiumref14_has.l0 k t c j) ((t.data.toList.drop j).any (fun b => decide ((b.toNat : Int) = c))) := by
  intro d
  induction d with
  | zero =>
    intro j hd hj
    refine Evt.succ (fun k => rfl) ?_
    refine Evt.ff (by omega) ?_
    rw [List.drop_eq_nil_of_le (by show t.size ≤ j; omega)]
    exact Evt.const _
  | succ d ih =>
    intro j hd hj
    by_cases hlt : j < t.size
    · refine Evt.succ (fun k => rfl) ?_
      refine Evt.tt (by omega) (Evt.tt (by omega) ?_)
      have hw : wrap64 ((j : Int) + 1) = ((j + 1 : Nat) : Int) := w64 (by omega) (by omega)
      have hl : j < t.data.toList.length := hlt
      have he : t.data.toList[j]'hl = t[j]'hlt := rfl
      rw [List.drop_eq_getElem_cons hl, List.any_cons, he, bt_nat t j hlt]
      by_cases h1 : ((t[j]'hlt).toNat : Int) = c
      · rw [decide_eq_true h1, Bool.true_or]
        exact Evt.tt h1 (Evt.const _)
      · rw [decide_eq_false h1, Bool.false_or]
        refine Evt.ff h1 ?_
        rw [hw]
        exact ih (j + 1) (by omega) (by omega)
    · refine Evt.succ (fun k => rfl) ?_
      refine Evt.ff (by omega) ?_
      rw [List.drop_eq_nil_of_le (by show t.size ≤ j; omega)]
      exact Evt.const _
theorem has_ev (t : ByteArray) (c : Int) (hs : t.size ≤ 1000000000000) : Evt (fun k => triforiumref14_has.f k t c) (hasB t c) := by
  have := has_loop t c hs _ 0 (Nat.le_refl _) (by omega)
  rw [List.drop_zero] at this
  exact this

def signT : ByteArray := ⟨#[33, 35, 36, 37, 38, 42, 43, 45, 47, 58, 60, 61, 62, 64, 94, 124, 126]⟩
def pointT : ByteArray := ⟨#[40, 41, 91, 93, 123, 125, 44, 59, 46]⟩
def digitT : ByteArray := ⟨#[48, 49, 50, 51, 52, 53, 54, 55, 56, 57]⟩
theorem has_list (l : List UInt8) (c : Int) (h0 : 0 ≤ c) (h1 : c ≤ 255) : l.contains c.toNat.toUInt8 = l.any (fun b => decide ((b.toNat : Int) = c)) := by
  induction l with
  | nil => rfl
  | cons b r ih =>
    rw [List.contains_cons, List.any_cons, ih]
    congr 1
    obtain ⟨n, rfl⟩ := Int.eq_ofNat_of_zero_le h0
    rw [Int.toNat_natCast]
    have hn : n < 256 := by omega
    by_cases h : (b.toNat : Int) = (n : Int)
    · rw [decide_eq_true h, beq_iff_eq]
      have : b.toNat = n := by omega
      subst this
      simp
    · rw [decide_eq_false h, beq_eq_false_iff_ne]
      intro e
      apply h
      rw [← e]
      simp
      omega
theorem sign_has (c : Int) (h0 : 0 ≤ c) (h1 : c ≤ 255) : signB c = hasB signT c := has_list _ _ h0 h1
theorem point_has (c : Int) (h0 : 0 ≤ c) (h1 : c ≤ 255) : pointB c = hasB pointT c := has_list _ _ h0 h1
theorem digit_has (c : Int) : digitB c = hasB digitT c := by
  unfold digitB hasB digitT
  simp only [List.any_cons, List.any_nil, Bool.or_false]
  rw [Bool.eq_iff_iff]
  simp only [Bool.or_eq_true, decide_eq_true_eq]
  constructor
  · intro h
    rcases (show c = 48 ∨ c = 49 ∨ c = 50 ∨ c = 51 ∨ c = 52 ∨ c = 53 ∨ c = 54 ∨ c = 55 ∨ c = 56 ∨ c = 57 by omega) with rfl | rfl | rfl | rfl | rfl | rfl | rfl | rfl | rfl | rfl <;> decide
  · rintro (h | h | h | h | h | h | h | h | h | h) <;> (rw [← h]; decide)

theorem skipW_congr (p q : Int → Bool) (s : ByteArray) (h : ∀ j : Nat, p (bt s j) = q (bt s j)) : ∀ d i, skipW p s d i = skipW q s d i := by
  intro d
  induction d with
  | zero => intro i; rfl
  | succ d ih => intro i; unfold skipW; rw [h, ih]
theorem whileE_congr (p q : Int → Bool) (s : ByteArray) (h : ∀ j : Nat, p (bt s j) = q (bt s j)) (i : Nat) : whileE p s i = whileE q s i := skipW_congr p q s h _ i

theorem run_loop (s t : ByteArray) (ht : t.size ≤ 1000000000000) (hs : s.size ≤ 1000000000000) : ∀ d j : Nat, s.size - j ≤ d → j ≤ 2000000000000 → Evt (fun k => triforiumref14_run.l0 k s j t) (whileE (hasB t) s j : Int) := by
  intro d
  induction d with
  | zero =>
    intro j hd hj
    refine Evt.succ (fun k => rfl) ?_
    refine Evt.ff (by omega) ?_
    rw [whileE_end _ _ _ (by omega)]
    exact Evt.const _
  | succ d ih =>
    intro j hd hj
    by_cases hlt : j < s.size
    · refine Evt.succ (fun k => rfl) ?_
      refine Evt.tt (by omega) (Evt.tt (by omega) ?_)
      refine Evt.bind (has_ev t _ ht) ?_
      have hw : wrap64 ((j : Int) + 1) = ((j + 1 : Nat) : Int) := w64 (by omega) (by omega)
      by_cases h1 : hasB t (bt s j) = true
      · refine Evt.tt h1 ?_
        rw [hw, whileE_hit _ s j hlt h1]
        exact ih (j + 1) (by omega) (by omega)
      · refine Evt.ff h1 ?_
        rw [whileE_miss _ s j hlt (Bool.eq_false_iff.2 h1)]
        exact Evt.const _
    · refine Evt.succ (fun k => rfl) ?_
      refine Evt.ff (by omega) ?_
      rw [whileE_end _ _ _ (by omega)]
      exact Evt.const _
theorem run_ev (s t : ByteArray) (ht : t.size ≤ 1000000000000) (hs : s.size ≤ 1000000000000) (j : Nat) (hj : j ≤ 2000000000000) : Evt (fun k => triforiumref14_run.f k s j t) (whileE (hasB t) s j : Int) :=
  run_loop s t ht hs _ j (Nat.le_refl _) hj
theorem signs_ev (s : ByteArray) (hs : s.size ≤ 1000000000000) (j : Nat) (hj : j ≤ 2000000000000) : Evt (fun k => triforiumref14_run.f k s j signT) (runE s j : Int) :=
  (run_ev s signT (by decide) hs j hj).eq (by rw [runE, whileE_congr signB (hasB signT) s (fun j => sign_has _ (bt_range s j).1 (bt_range s j).2)])
theorem digits_ev (s : ByteArray) (hs : s.size ≤ 1000000000000) (j : Nat) (hj : j ≤ 2000000000000) : Evt (fun k => triforiumref14_run.f k s j digitT) (whileE digitB s j : Int) :=
  (run_ev s digitT (by decide) hs j hj).eq (by rw [whileE_congr digitB (hasB digitT) s (fun j => digit_has _)])

theorem starts_eq (s : ByteArray) (hs : s.size ≤ 1000000000000) (i : Nat) (hi : i ≤ s.size) (t : ByteArray) (ht : t.size ≤ 1000000000000) : triforiumref14_starts.f s i t = some (preAt s i t.data.toList) := by
  unfold triforiumref14_starts.f
  have hw : wrap64 ((i : Int) + (t.size : Int)) = ((i + t.size : Nat) : Int) := w64 (by omega) (by omega)
  rw [hw]
  by_cases hle : i + t.size ≤ s.size
  · rw [if_pos (by omega), if_pos (by omega), if_pos (by omega), Int.toNat_natCast, Int.toNat_natCast]
    congr 1
    unfold preAt
    rw [Bool.eq_iff_iff, beq_iff_eq, List.isPrefixOf_iff_prefix, Lib.toList_data, Lib.toList_data]
    have e : (s.extract i (i + t.size)).data.toList = (s.data.toList.drop i).take t.size := by
      rw [ByteArray.data_extract, Array.toList_extract, List.extract_eq_take_drop]
      congr 1
      omega
    rw [e]
    constructor
    · intro h; rw [← h]; exact List.take_prefix _ _
    · intro h
      have := List.prefix_iff_eq_take.1 h
      rw [this]
      rfl
  · rw [if_neg (by omega)]
    congr 1
    symm
    rw [Bool.eq_false_iff]
    intro h
    have := preAt_le h hi
    have : t.data.toList.length = t.size := rfl
    omega
end Go.Proofs.YtmkfeanggmjhmaaGreat.L
namespace Go.Proofs.YtmkfeanggmjhmaaGreat.L
set_option linter.unusedSimpArgs false
set_option linter.unusedVariables false
open Go Go.RowKit Go.Proofs.YtmkfeanggmjhmaaGreatW.PrintWords Go.Proofs.YtmkfeanggmjhmaaGreatW.PrintLast Go.Proofs.YtmkfeanggmjhmaaGreatW.PrintMore
open Go.Proofs.YtmkfeanggmjhmaaGreat.M Go.Proofs.YtmkfeanggmjhmaaGreat.E Go.Proofs.YtmkfeanggmjhmaaGreat.PTokenWrites

theorem named_ev (s : ByteArray) (hs : s.size ≤ 1000000000) (i : Nat) (hi : i ≤ s.size) : Evt (fun k => triforiumref14_named.f k s i) (namedE s i : Int) := by
  unfold triforiumref14_named.f namedE
  refine Evt.bind (Evt.of _ (starts_eq s (by omega) i hi ⟨#[92, 60]⟩ (by decide))) ?_
  have e0 : (⟨#[92, 60]⟩ : ByteArray).data.toList = [92, 60] := rfl
  rw [e0]
  by_cases hp : preAt s i [92, 60] = true
  · rw [if_pos hp]
    have hle := preAt_le hp hi
    simp only [List.length_cons, List.length_nil] at hle
    refine Evt.tt hp ?_
    have hw : wrap64 ((i : Int) + 2) = ((i + 2 : Nat) : Int) := w64 (by omega) (by omega)
    simp only [hw]
    refine Evt.bind (ident_ev s (i + 2) (by omega) (by omega)) ?_
    have h1 := identE_ge s (i + 2)
    have h2 := identE_le s (i + 2) (by omega)
    generalize identE s (i + 2) = e at h1 h2
    by_cases ha : e = i + 2
    · refine (Evt.tt (by omega) (Evt.const _)).eq ?_
      rw [if_pos (.inl ha)]
    · refine Evt.ff (by omega) ?_
      by_cases hb : e = s.size
      · refine (Evt.tt (by omega) (Evt.const _)).eq ?_
        rw [if_pos (.inr (.inl hb))]
      · refine Evt.ff (by omega) (Evt.tt (by omega) (Evt.tt (by omega) ?_))
        by_cases hc : bt s e = 62
        · refine (Evt.tt hc (Evt.const _)).eq ?_
          rw [if_neg (fun h => h.elim ha (fun h => h.elim hb (fun h => h hc))), w64 (by omega) (by omega)]
          rfl
        · refine (Evt.ff hc (Evt.const _)).eq ?_
          rw [if_pos (.inr (.inr hc))]
  · rw [if_neg hp]
    exact Evt.ff hp (Evt.const _)

theorem opened_none (s : ByteArray) (h : s.data.toList = opened) : identE s 0 ≠ s.size ∧ runE s 0 ≠ s.size ∧ s.size ≠ 1 := by
  obtain ⟨⟨l⟩⟩ := s
  simp only at h
  subst h
  refine ⟨?_, ?_, ?_⟩ <;> decide
theorem closed_none (s : ByteArray) (h : s.data.toList = closed) : identE s 0 ≠ s.size ∧ runE s 0 ≠ s.size ∧ s.size ≠ 1 := by
  obtain ⟨⟨l⟩⟩ := s
  simp only at h
  subst h
  refine ⟨?_, ?_, ?_⟩ <;> decide

theorem isKeyword_ev (s : ByteArray) (hs : s.size ≤ 1000000000) : Evt (fun k => triforiumref14_isKeyword.f k s) (kwB s) := by
  unfold triforiumref14_isKeyword.f kwB
  by_cases h0 : s.size = 0
  · refine Evt.tt (by omega) ?_
    rw [decide_eq_true h0]
    simp only [Bool.true_or, Bool.not_true, Bool.false_and]
    exact Evt.succ (g := fun _ => some false) (fun k => rfl) (Evt.const _)
  · refine Evt.ff (by omega) ?_
    by_cases h40 : 40 < s.size
    · rw [decide_eq_true h40, decide_eq_true (show (s.size : Int) > 40 by omega)]
      simp only [Bool.true_or, Bool.or_true, Bool.not_true, Bool.false_and]
      exact Evt.succ (g := fun _ => some false) (fun k => rfl) (Evt.const _)
    · rw [decide_eq_false h0, decide_eq_false h40, decide_eq_false (show ¬ (s.size : Int) > 40 by omega)]
      simp only [Bool.false_or]
      refine Evt.succ (fun k => rfl) ?_
      refine Evt.ff (g := fun _ => some false) (c := false = true) (by decide) ?_
      refine Evt.bind (ident_ev s 0 (by omega) (by omega)) ?_
      by_cases ha : identE s 0 = s.size
      · refine Evt.tt (by omega) ?_
        rw [decide_eq_true ha]
        have n1 : s.data.toList ≠ opened := fun e => (opened_none s e).1 ha
        have n2 : s.data.toList ≠ closed := fun e => (closed_none s e).1 ha
        rw [decide_eq_false n1, decide_eq_false n2]
        exact Evt.const _
      · refine Evt.ff (by omega) ?_
        rw [decide_eq_false ha]
        refine Evt.bind (signs_ev s (by omega) 0 (by omega)) ?_
        by_cases hb : runE s 0 = s.size
        · refine Evt.tt (by omega) ?_
          rw [decide_eq_true hb]
          have n1 : s.data.toList ≠ opened := fun e => (opened_none s e).2.1 hb
          have n2 : s.data.toList ≠ closed := fun e => (closed_none s e).2.1 hb
          rw [decide_eq_false n1, decide_eq_false n2]
          exact Evt.const _
        · refine Evt.ff (by omega) ?_
          rw [decide_eq_false hb]
          have hnam : Evt (fun k => (triforiumref14_named.f k s 0).bind fun t113 => (if t113 = (s.size : Int) then (if s.toList = ([92, 60, 111, 112, 101, 110, 62] : List UInt8) then (some false) else (some (s.toList != ([92, 60, 99, 108, 111, 115, 101, 62] : List UInt8)))) else (some false)))
              (!(decide (s.data.toList = opened) || decide (s.data.toList = closed)) && decide (namedE s 0 = s.size)) := by
            refine Evt.bind (named_ev s hs 0 (by omega)) ?_
            by_cases hc : namedE s 0 = s.size
            · refine Evt.tt (by omega) ?_
              rw [decide_eq_true hc, Bool.and_true, Lib.toList_data]
              by_cases ho : s.data.toList = opened
              · rw [decide_eq_true ho]
                exact Evt.tt ho (Evt.const _)
              · rw [decide_eq_false ho, Bool.false_or]
                refine Evt.ff ho ?_
                by_cases hcl : s.data.toList = closed
                · rw [decide_eq_true hcl]
                  refine Evt.of _ ?_
                  rw [show s.data.toList = [92, 60, 99, 108, 111, 115, 101, 62] from hcl]
                  rfl
                · rw [decide_eq_false hcl]
                  refine Evt.of _ ?_
                  congr 1
                  exact bne_iff_ne.2 hcl
            · rw [decide_eq_false hc, Bool.and_false]
              exact Evt.ff (by omega) (Evt.const _)
          by_cases h1 : s.size = 1
          · refine Evt.tt (by omega) (Evt.tt (by omega) ?_)
            refine Evt.bind (has_ev pointT (bt s 0) (by decide)) ?_
            rw [decide_eq_true h1, Bool.true_and, point_has _ (bt_range s 0).1 (bt_range s 0).2]
            have n1 : s.data.toList ≠ opened := fun e => (opened_none s e).2.2 h1
            have n2 : s.data.toList ≠ closed := fun e => (closed_none s e).2.2 h1
            by_cases hh : hasB pointT (bt s 0) = true
            · refine Evt.tt hh ?_
              rw [hh, decide_eq_false n1, decide_eq_false n2]
              simp only [Bool.or_true, Bool.or_false, Bool.not_false, Bool.and_true]
              exact Evt.const _
            · refine Evt.ff hh ?_
              rw [Bool.eq_false_iff.2 hh]
              simp only [Bool.or_false, Bool.false_or]
              exact hnam
          · refine Evt.ff (by omega) ?_
            rw [decide_eq_false h1]
            simp only [Bool.or_false, Bool.false_or, Bool.false_and]
            exact hnam

theorem rd_eq (l : List ByteArray) (k : Nat) (h : k < l.length) : rdOf ByteArray.empty l (k : Int) = l[k]'h := by
  unfold rdOf
  simp [h]

theorem dup_loop (l : List ByteArray) (hl : l.length ≤ 1000000) (i : Nat) (hi : i < l.length) : ∀ d j : Nat, i - j ≤ d → j ≤ i → ∀ r : Int,
    (if (((l.take i).drop j).any (fun t => (l[i]'hi).data.toList == t.data.toList)) = true then r = 10 else Evt (fun k => triforiumref14_Check.l0 k l ((i + 1 : Nat) : Int)) r) → Evt (fun k => triforiumref14_Check.l1 k l i j) r := by
  intro d
  induction d with
  | zero =>
    intro j hd hj r h
    obtain rfl : j = i := by omega
    refine Evt.succ (fun k => rfl) ?_
    refine Evt.ff (by omega) ?_
    rw [List.drop_eq_nil_of_le (by simp; omega)] at h
    simp only [List.any_nil, Bool.false_eq_true, if_false] at h
    rw [w64 (by omega) (by omega)]
    exact h
  | succ d ih =>
    intro j hd hj r h
    by_cases hlt : j < i
    · refine Evt.succ (fun k => rfl) ?_
      refine Evt.tt (by omega) (Evt.tt (by omega) (Evt.tt (by omega) (Evt.tt (by omega) (Evt.tt (by omega) ?_))))
      rw [rd_eq l j (by omega), rd_eq l i hi, Lib.toList_data, Lib.toList_data]
      have hjl : j < (l.take i).length := by simp; omega
      rw [List.drop_eq_getElem_cons hjl, List.any_cons] at h
      have e : (l.take i)[j]'hjl = l[j]'(by omega) := by simp
      rw [e] at h
      by_cases he : (l[j]'(by omega)).data.toList = (l[i]'hi).data.toList
      · refine Evt.tt he ?_
        rw [beq_iff_eq.2 he.symm, Bool.true_or, if_pos rfl] at h
        rw [h]
        exact Evt.const _
      · refine Evt.ff he ?_
        rw [beq_eq_false_iff_ne.2 (fun e => he e.symm), Bool.false_or] at h
        rw [w64 (by omega) (by omega)]
        exact ih (j + 1) (by omega) (by omega) r h
    · obtain rfl : j = i := by omega
      refine Evt.succ (fun k => rfl) ?_
      refine Evt.ff (by omega) ?_
      rw [List.drop_eq_nil_of_le (by simp; omega)] at h
      simp only [List.any_nil, Bool.false_eq_true, if_false] at h
      rw [w64 (by omega) (by omega)]
      exact h

theorem Check_loop (l : List ByteArray) (hl : l.length ≤ 1000000) (hs : ∀ x ∈ l, x.size ≤ 1000000000) : ∀ d i : Nat, l.length - i ≤ d → i ≤ l.length → Evt (fun k => triforiumref14_Check.l0 k l i) (checkL (l.take i) (l.drop i)) := by
  intro d
  induction d with
  | zero =>
    intro i hd hi
    refine Evt.succ (fun k => rfl) ?_
    refine Evt.ff (by omega) ?_
    rw [List.drop_eq_nil_of_le (by omega)]
    exact Evt.const _
  | succ d ih =>
    intro i hd hi
    by_cases hlt : i < l.length
    · refine Evt.succ (fun k => rfl) (Evt.tt (by omega) (Evt.tt (by omega) ?_))
      rw [rd_eq l i hlt, List.drop_eq_getElem_cons hlt, checkL]
      refine Evt.bind (isKeyword_ev _ (hs _ (List.getElem_mem hlt))) ?_
      by_cases hk : kwB (l[i]'hlt) = true
      · refine Evt.tt hk ?_
        rw [if_pos hk]
        refine dup_loop l hl i hlt _ 0 (Nat.le_refl _) (by omega) _ ?_
        rw [List.drop_zero]
        split
        · rfl
        · have := ih (i + 1) (by omega) (by omega)
          rw [List.take_succ_eq_append_getElem hlt] at this
          exact this
      · rw [if_neg hk]
        exact Evt.ff hk (Evt.const _)
    · refine Evt.succ (fun k => rfl) (Evt.ff (by omega) ?_)
      rw [List.drop_eq_nil_of_le (by omega)]
      exact Evt.const _
theorem Check_ev (l : List ByteArray) (hs : ∀ x ∈ l, x.size ≤ 1000000000) : Evt (fun k => triforiumref14_Check.f k l) (checkE l) := by
  unfold triforiumref14_Check.f checkE
  by_cases h : 500 < l.length
  · rw [if_pos h]
    exact Evt.tt (by omega) (Evt.const _)
  · rw [if_neg h]
    refine Evt.ff (by omega) ?_
    exact Check_loop l (by omega) hs _ 0 (Nat.le_refl _) (by omega)
end Go.Proofs.YtmkfeanggmjhmaaGreat.L

/- The printed reference of tokens is the plain scanner: blanks, strings, quotations, indices. -/
namespace Go.Proofs.YtmkfeanggmjhmaaGreat.L
set_option linter.unusedSimpArgs false
set_option linter.unusedVariables false
open Go Go.RowKit Go.Proofs.YtmkfeanggmjhmaaGreatW.PrintWords Go.Proofs.YtmkfeanggmjhmaaGreatW.PrintLast Go.Proofs.YtmkfeanggmjhmaaGreatW.PrintMore
open Go.Proofs.YtmkfeanggmjhmaaGreat.M Go.Proofs.YtmkfeanggmjhmaaGreat.E Go.Proofs.YtmkfeanggmjhmaaGreat.PTokenWrites

def blP : Except Nat Nat → Int × Int
  | .ok j => (j, 0)
  | .error p => (p, 162)
theorem blanksE_blank (s : ByteArray) (i : Nat) (h : i < s.size) (hb : blankB (bt s i) = true) : blanksE s i = blanksE s (i + 1) := by
  have hw := whileE_hit blankB s i h hb
  have h2 := whileE_le blankB s (i + 1) (by omega)
  by_cases hp : preAt s (whileE blankB s (i + 1)) [40, 42] = true
  · cases hn : nestE s [40, 42] [42, 41] (whileE blankB s (i + 1)) 0 with
    | none => rw [blanksE_err s (i + 1) hp hn, blanksE_err s i (by rw [hw]; exact hp) (by rw [hw]; exact hn), hw]
    | some e => rw [blanksE_step s (i + 1) (by omega) hp hn, blanksE_step s i (by omega) (by rw [hw]; exact hp) (by rw [hw]; exact hn)]
  · rw [blanksE_none s (i + 1) (Bool.eq_false_iff.2 hp), blanksE_none s i (by rw [hw]; exact Bool.eq_false_iff.2 hp), hw]
theorem nest_loop (s : ByteArray) (hs : s.size ≤ 1000000000) (i0 : Nat) (R : Int × Int) : ∀ d (deep j : Nat), s.size - j ≤ d → 1 ≤ deep → deep ≤ j → j ≤ 2000000000 →
    (match nestE s [40, 42] [42, 41] j (deep : Int) with | none => R = ((i0 : Int), (162 : Int)) | some e => Evt (fun k => triforiumref14_blanks.l0 k s (e : Int)) R) → Evt (fun k => triforiumref14_blanks.l1 k s i0 deep j) R := by
  intro d
  induction d with
  | zero =>
    intro deep j hd h1 hdj hj h
    rw [nestE_end _ _ _ _ _ (by omega)] at h
    simp only at h
    rw [h]
    refine Evt.succ (fun k => rfl) ?_
    exact Evt.tt (by omega) (Evt.tt (by omega) (Evt.const _))
  | succ d ih =>
    intro deep j hd h1 hdj hj h
    by_cases hlt : j < s.size
    · refine Evt.succ (fun k => rfl) ?_
      refine Evt.tt (by omega) (Evt.ff (by omega) ?_)
      have eb : (⟨#[40, 42]⟩ : ByteArray).data.toList = [40, 42] := rfl
      have ee : (⟨#[42, 41]⟩ : ByteArray).data.toList = [42, 41] := rfl
      refine Evt.bind (Evt.of _ (starts_eq s (by omega) j (by omega) ⟨#[40, 42]⟩ (by decide))) ?_
      rw [eb]
      by_cases hb : preAt s j [40, 42] = true
      · refine Evt.tt hb ?_
        have hD : stepD s [40, 42] [42, 41] j = 1 := by unfold stepD; rw [if_pos hb]
        have hW : stepW s [40, 42] [42, 41] j = 2 := by unfold stepW; rw [if_pos hb]; rfl
        rw [nestE_step _ _ _ (by decide) (by decide) _ _ hlt (by rw [hD]; omega), hD, hW] at h
        have e1 : wrap64 ((deep : Int) + 1) = ((deep + 1 : Nat) : Int) := w64 (by omega) (by omega)
        have e2 : wrap64 ((j : Int) + 2) = ((j + 2 : Nat) : Int) := w64 (by omega) (by omega)
        rw [e1, e2]
        exact ih (deep + 1) (j + 2) (by omega) (by omega) (by omega) (by omega) h
      · refine Evt.ff hb ?_
        refine Evt.bind (Evt.of _ (starts_eq s (by omega) j (by omega) ⟨#[42, 41]⟩ (by decide))) ?_
        rw [ee]
        by_cases he : preAt s j [42, 41] = true
        · refine Evt.tt he ?_
          have hD : stepD s [40, 42] [42, 41] j = -1 := by unfold stepD; rw [if_neg hb, if_pos he]
          have hW : stepW s [40, 42] [42, 41] j = 2 := by unfold stepW; rw [if_neg hb, if_pos he]; rfl
          have e1 : wrap64 ((deep : Int) - 1) = ((deep - 1 : Nat) : Int) := (w64 (x := (deep : Int) - 1) (by omega) (by omega)).trans (by omega)
          have e2 : wrap64 ((j : Int) + 2) = ((j + 2 : Nat) : Int) := w64 (by omega) (by omega)
          rw [e1, e2]
          by_cases hz : deep = 1
          · rw [nestE_stop _ _ _ _ _ hlt (by rw [hD]; omega), hW] at h
            simp only at h
            refine Evt.succ (fun k => rfl) ?_
            exact Evt.ff (by omega) h
          · rw [nestE_step _ _ _ (by decide) (by decide) _ _ hlt (by rw [hD]; omega), hD, hW] at h
            have e3 : (deep : Int) + -1 = ((deep - 1 : Nat) : Int) := by omega
            rw [e3] at h
            exact ih (deep - 1) (j + 2) (by omega) (by omega) (by omega) (by omega) h
        · refine Evt.ff he ?_
          have hD : stepD s [40, 42] [42, 41] j = 0 := by unfold stepD; rw [if_neg hb, if_neg he]
          have hW : stepW s [40, 42] [42, 41] j = 1 := by unfold stepW; rw [if_neg hb, if_neg he]
          rw [nestE_step _ _ _ (by decide) (by decide) _ _ hlt (by rw [hD]; omega), hD, hW, Int.add_zero] at h
          have e2 : wrap64 ((j : Int) + 1) = ((j + 1 : Nat) : Int) := w64 (by omega) (by omega)
          rw [e2]
          exact ih deep (j + 1) (by omega) (by omega) (by omega) (by omega) h
    · rw [nestE_end _ _ _ _ _ (by omega)] at h
      simp only at h
      rw [h]
      refine Evt.succ (fun k => rfl) ?_
      exact Evt.tt (by omega) (Evt.tt (by omega) (Evt.const _))

theorem blanks_loop (s : ByteArray) (hs : s.size ≤ 1000000000) : ∀ d i : Nat, s.size - i ≤ d → i ≤ s.size → Evt (fun k => triforiumref14_blanks.l0 k s i) (blP (blanksE s i)) := by
  intro d
  induction d with
  | zero =>
    intro i hd hi
    obtain rfl : i = s.size := by omega
    refine Evt.succ (fun k => rfl) ?_
    refine (Evt.ff (by omega) (Evt.const _)).eq ?_
    rw [blanksE_none s s.size (by
      rw [whileE_end _ _ _ (Nat.le_refl _), Bool.eq_false_iff]
      intro h
      have := preAt_le h (Nat.le_refl _)
      simp at this; omega), whileE_end _ _ _ (Nat.le_refl _)]
    rfl
  | succ d ih =>
    intro i hd hi
    by_cases hlt : i < s.size
    · refine Evt.succ (fun k => rfl) ?_
      refine Evt.tt (by omega) (Evt.tt (by omega) ?_)
      have e1 : wrap64 ((i : Int) + 1) = ((i + 1 : Nat) : Int) := w64 (by omega) (by omega)
      have e2 : wrap64 ((i : Int) + 2) = ((i + 2 : Nat) : Int) := w64 (by omega) (by omega)
      have hT : blankB (bt s i) = true → Evt (fun k => triforiumref14_blanks.j1 k s i true) (blP (blanksE s i)) := by
        intro hb
        have := ih (i + 1) (by omega) (by omega)
        rw [blanksE_blank s i hlt hb]
        refine Evt.succ (g := fun k => triforiumref14_blanks.l0 k s (wrap64 ((i : Int) + 1))) (fun k => rfl) ?_
        rw [e1]
        exact this
      by_cases h1 : bt s i = 32
      · exact Evt.tt h1 (hT (by unfold blankB; rw [h1]; rfl))
      · refine Evt.ff h1 ?_
        by_cases h2 : bt s i = 9
        · exact Evt.tt h2 (hT (by unfold blankB; rw [h2]; rfl))
        · refine Evt.ff h2 ?_
          by_cases h3 : bt s i = 10
          · exact Evt.tt h3 (hT (by unfold blankB; rw [h3]; rfl))
          · refine Evt.ff h3 ?_
            by_cases h4 : bt s i = 13
            · rw [beq_iff_eq.2 h4]
              exact hT (by unfold blankB; rw [h4]; rfl)
            · rw [beq_eq_false_iff_ne.2 h4]
              have hb : blankB (bt s i) = false := by unfold blankB; exact decide_eq_false (by omega)
              have hw := whileE_miss blankB s i hlt hb
              refine Evt.succ (fun k => rfl) ?_
              refine Evt.ff (g := fun k => triforiumref14_blanks.l0 k s (wrap64 ((i : Int) + 1))) (c := false = true) (by decide) ?_
              refine Evt.bind (Evt.of _ (starts_eq s (by omega) i (by omega) ⟨#[40, 42]⟩ (by decide))) ?_
              have eb : (⟨#[40, 42]⟩ : ByteArray).data.toList = [40, 42] := rfl
              rw [eb]
              by_cases hp : preAt s i [40, 42] = true
              · refine Evt.tt hp ?_
                rw [e2]
                have hle := preAt_le hp (by omega)
                simp only [List.length_cons, List.length_nil] at hle
                have hD : stepD s [40, 42] [42, 41] i = 1 := by unfold stepD; rw [if_pos hp]
                have hW : stepW s [40, 42] [42, 41] i = 2 := by unfold stepW; rw [if_pos hp]; rfl
                have hne : nestE s [40, 42] [42, 41] i 0 = nestE s [40, 42] [42, 41] (i + 2) 1 := by
                  rw [nestE_step _ _ _ (by decide) (by decide) _ _ hlt (by rw [hD]; omega), hD, hW]; rfl
                refine nest_loop s hs i _ _ 1 (i + 2) (Nat.le_refl _) (by omega) (by omega) (by omega) ?_
                show match nestE s [40, 42] [42, 41] (i + 2) 1 with | none => _ | some e => _
                rw [← hne]
                cases hn : nestE s [40, 42] [42, 41] i 0 with
                | none =>
                  simp only
                  rw [blanksE_err s i (by rw [hw]; exact hp) (by rw [hw]; exact hn), hw]
                  rfl
                | some e =>
                  simp only
                  have hl := nestE_le (by omega) hn
                  have hg := nestE_lt (by decide) (by decide) (by omega) hn
                  rw [blanksE_step s i (by omega) (by rw [hw]; exact hp) (by rw [hw]; exact hn)]
                  exact ih e (by omega) hl.2
              · refine (Evt.ff hp (Evt.const _)).eq ?_
                rw [blanksE_none s i (by rw [hw]; exact Bool.eq_false_iff.2 hp), hw]
                rfl
    · obtain rfl : i = s.size := by omega
      refine Evt.succ (fun k => rfl) ?_
      refine (Evt.ff (by omega) (Evt.const _)).eq ?_
      rw [blanksE_none s s.size (by
        rw [whileE_end _ _ _ (Nat.le_refl _), Bool.eq_false_iff]
        intro h
        have := preAt_le h (Nat.le_refl _)
        simp at this; omega), whileE_end _ _ _ (Nat.le_refl _)]
      rfl
theorem blanks_ev (s : ByteArray) (hs : s.size ≤ 1000000000) (i : Nat) (hi : i ≤ s.size) : Evt (fun k => triforiumref14_blanks.f k s i) (blP (blanksE s i)) := blanks_loop s hs _ i (Nat.le_refl _) hi

def txP (i : Nat) : Option (List UInt8 × Nat) → Int × ByteArray × Int × Int × Int
  | some (l, j) => (8, ⟨l.toArray⟩, i, j, 0)
  | none => (0, ⟨#[]⟩, 0, i, 161)
theorem app_one (s : ByteArray) (out : List UInt8) (j : Nat) (h : j < s.size) : (⟨out.toArray⟩ : ByteArray) ++ s.extract j (j + 1) = ⟨(out ++ [(bt s j).toNat.toUInt8]).toArray⟩ := by
  have hb : (bt s j).toNat.toUInt8 = s[j]'h := by rw [bt_nat s j h, Int.toNat_natCast]; simp
  rw [hb]
  apply ByteArray.ext
  apply Array.ext'
  simp only [ByteArray.data_append, ByteArray.data_extract, Array.toList_append, Array.toList_extract, List.extract_eq_take_drop, Nat.add_sub_cancel_left]
  congr 1
  have hl : j < s.data.toList.length := h
  rw [List.drop_eq_getElem_cons hl, List.take_succ_cons, List.take_zero]
  rfl
theorem app_lit (out : List UInt8) : (⟨out.toArray⟩ : ByteArray) ++ (⟨#[10]⟩ : ByteArray) = ⟨(out ++ [10]).toArray⟩ := by
  apply ByteArray.ext
  apply Array.ext'
  simp
theorem text_loop (s : ByteArray) (hs : s.size ≤ 1000000000) (i : Nat) (hi : i < s.size) : ∀ d (j : Nat) (out : List UInt8), s.size - j ≤ d → out.length ≤ j → j ≤ 2000000000 → Evt (fun k => triforiumref14_text.l0 k s i ⟨out.toArray⟩ j) (txP i (textE s j out)) := by
  intro d
  induction d using Nat.strongRecOn with
  | _ d ih =>
    intro j out hd ho hj
    by_cases hlt : j < s.size
    · have hsz : (⟨out.toArray⟩ : ByteArray).size = out.length := by simp [ByteArray.size]
      have hex : ∀ m, m < s.size → (s.extract m (m + 1)).size = 1 := fun m hm => by rw [ByteArray.size_extract]; omega
      refine Evt.succ (fun k => rfl) ?_
      refine Evt.tt (by omega) (Evt.tt (by omega) ?_)
      rw [textE_eq s j out hlt]
      have e1 : wrap64 ((j : Int) + 1) = ((j + 1 : Nat) : Int) := w64 (by omega) (by omega)
      simp only [e1]
      by_cases h34 : bt s j = 34
      · refine (Evt.tt h34 (Evt.const _)).eq ?_
        rw [if_neg (by omega), if_pos h34]
        rfl
      · refine Evt.ff h34 ?_
        by_cases h10 : bt s j = 10
        · refine (Evt.tt h10 (Evt.const _)).eq ?_
          rw [if_pos h10]
          rfl
        · refine Evt.ff h10 ?_
          by_cases h92 : bt s j = 92
          · refine Evt.tt h92 ?_
            have hR : (if bt s j = 10 then none else if bt s j = 34 then some (out, j + 1) else if bt s j = 92 then (if j + 1 < s.size then (if bt s ((j + 1 : Nat) : Int) = 110 then textE s (j + 2) (out ++ [10]) else if bt s ((j + 1 : Nat) : Int) = 34 ∨ bt s ((j + 1 : Nat) : Int) = 92 then textE s (j + 2) (out ++ [(bt s ((j + 1 : Nat) : Int)).toNat.toUInt8]) else none) else none) else textE s (j + 1) (out ++ [(bt s j).toNat.toUInt8])) =
                (if j + 1 < s.size then (if bt s ((j + 1 : Nat) : Int) = 110 then textE s (j + 2) (out ++ [10]) else if bt s ((j + 1 : Nat) : Int) = 34 ∨ bt s ((j + 1 : Nat) : Int) = 92 then textE s (j + 2) (out ++ [(bt s ((j + 1 : Nat) : Int)).toNat.toUInt8]) else none) else none) := by
              rw [if_neg h10, if_neg h34, if_pos h92]
            rw [hR]
            clear hR
            have e2 : wrap64 (((j + 1 : Nat) : Int) + 1) = ((j + 2 : Nat) : Int) := by rw [w64 (by omega) (by omega)]; omega
            by_cases hl2 : j + 1 < s.size
            · refine Evt.ff (by omega) (Evt.tt (by omega) (Evt.tt (by omega) ?_))
              rw [if_pos hl2]
              have hJ : ∀ c : Bool, c = false → (bt s ((j + 1 : Nat) : Int) = 110 ∨ bt s ((j + 1 : Nat) : Int) = 34 ∨ bt s ((j + 1 : Nat) : Int) = 92) → Evt (fun k => triforiumref14_text.j1 k s i ⟨out.toArray⟩ ((j + 1 : Nat) : Int) c)
                  (txP i (if bt s ((j + 1 : Nat) : Int) = 110 then textE s (j + 2) (out ++ [10]) else if bt s ((j + 1 : Nat) : Int) = 34 ∨ bt s ((j + 1 : Nat) : Int) = 92 then textE s (j + 2) (out ++ [(bt s ((j + 1 : Nat) : Int)).toNat.toUInt8]) else none)) := by
                intro c hc hor
                refine Evt.succ (fun k => rfl) ?_
                refine Evt.ff (by rw [hc]; decide) (Evt.tt (by omega) (Evt.tt (by omega) ?_))
                by_cases h110 : bt s ((j + 1 : Nat) : Int) = 110
                · refine Evt.tt h110 (Evt.tt (by rw [hsz]; omega) ?_)
                  rw [if_pos h110, app_lit, e2]
                  exact ih (s.size - (j + 2)) (by omega) (j + 2) (out ++ [10]) (Nat.le_refl _) (by simp; omega) (by omega)
                · refine Evt.ff h110 ?_
                  rw [if_neg h110, if_pos (by omega)]
                  simp only [e2, Int.toNat_natCast]
                  have e3 : j + 2 = (j + 1) + 1 := rfl
                  refine Evt.tt (by omega) (Evt.tt (by omega) (Evt.tt (by rw [hsz, e3, hex _ hl2]; omega) ?_))
                  rw [e3, app_one s out (j + 1) hl2]
                  exact ih (s.size - (j + 1 + 1)) (by omega) (j + 1 + 1) _ (Nat.le_refl _) (by simp; omega) (by omega)
              by_cases g34 : bt s ((j + 1 : Nat) : Int) = 34
              · exact Evt.tt g34 (hJ false rfl (.inr (.inl g34)))
              · refine Evt.ff g34 ?_
                by_cases g92 : bt s ((j + 1 : Nat) : Int) = 92
                · exact Evt.tt g92 (hJ false rfl (.inr (.inr g92)))
                · refine Evt.ff g92 ?_
                  by_cases g110 : bt s ((j + 1 : Nat) : Int) = 110
                  · exact hJ _ (by rw [g110]; rfl) (.inl g110)
                  · rw [bne_iff_ne.2 g110, if_neg g110, if_neg (by omega)]
                    exact Evt.succ (g := fun _ => some (0, (⟨#[]⟩ : ByteArray), 0, (i : Int), 161)) (fun k => rfl) (Evt.const _)
            · refine Evt.tt (by omega) ?_
              rw [if_neg hl2]
              exact Evt.succ (g := fun _ => some (0, (⟨#[]⟩ : ByteArray), 0, (i : Int), 161)) (fun k => rfl) (Evt.const _)
          · refine Evt.ff h92 ?_
            have hR : (if bt s j = 10 then none else if bt s j = 34 then some (out, j + 1) else if bt s j = 92 then (if j + 1 < s.size then (if bt s ((j + 1 : Nat) : Int) = 110 then textE s (j + 2) (out ++ [10]) else if bt s ((j + 1 : Nat) : Int) = 34 ∨ bt s ((j + 1 : Nat) : Int) = 92 then textE s (j + 2) (out ++ [(bt s ((j + 1 : Nat) : Int)).toNat.toUInt8]) else none) else none) else textE s (j + 1) (out ++ [(bt s j).toNat.toUInt8])) =
                textE s (j + 1) (out ++ [(bt s j).toNat.toUInt8]) := by
              rw [if_neg h10, if_neg h34, if_neg h92]
            rw [hR]
            simp only [Int.toNat_natCast]
            refine Evt.tt (by omega) (Evt.tt (by omega) (Evt.tt (by rw [hsz, hex _ hlt]; omega) ?_))
            rw [app_one s out j hlt]
            exact ih (s.size - (j + 1)) (by omega) (j + 1) _ (Nat.le_refl _) (by simp; omega) (by omega)
    · refine Evt.succ (fun k => rfl) ?_
      refine (Evt.ff (by omega) (Evt.const _)).eq ?_
      rw [textE_end _ _ _ (by omega)]
      rfl
theorem text_ev (s : ByteArray) (hs : s.size ≤ 1000000000) (i : Nat) (hi : i < s.size) : Evt (fun k => triforiumref14_text.f k s i) (txP i (textE s (i + 1) [])) := by
  unfold triforiumref14_text.f
  have e1 : wrap64 ((i : Int) + 1) = ((i + 1 : Nat) : Int) := w64 (by omega) (by omega)
  rw [e1]
  exact text_loop s hs i hi _ (i + 1) [] (Nat.le_refl _) (by simp) (by omega)
end Go.Proofs.YtmkfeanggmjhmaaGreat.L
namespace Go.Proofs.YtmkfeanggmjhmaaGreat.L
set_option linter.unusedSimpArgs false
set_option linter.unusedVariables false
open Go Go.RowKit Go.Proofs.YtmkfeanggmjhmaaGreatW.PrintWords Go.Proofs.YtmkfeanggmjhmaaGreatW.PrintLast Go.Proofs.YtmkfeanggmjhmaaGreatW.PrintMore
open Go.Proofs.YtmkfeanggmjhmaaGreat.M Go.Proofs.YtmkfeanggmjhmaaGreat.E Go.Proofs.YtmkfeanggmjhmaaGreat.PTokenWrites

def quP (i : Nat) (s : ByteArray) : Option Nat → Int × ByteArray × Int × Int × Int
  | some e => (9, s.extract (i + 7) (e - 8), i, e, 0)
  | none => (0, ⟨#[]⟩, 0, i, 161)
theorem quoted_loop (s : ByteArray) (hs : s.size ≤ 1000000000) (i0 : Nat) : ∀ d (deep j : Nat), s.size - j ≤ d → 1 ≤ deep → deep ≤ j → i0 + 7 ≤ j → j ≤ 2000000000 →
    Evt (fun k => triforiumref14_quoted.l0 k s i0 deep j) (quP i0 s (nestE s opened closed j (deep : Int))) := by
  have eb : (⟨#[92, 60, 111, 112, 101, 110, 62]⟩ : ByteArray).data.toList = opened := rfl
  have ee : (⟨#[92, 60, 99, 108, 111, 115, 101, 62]⟩ : ByteArray).data.toList = closed := rfl
  intro d
  induction d using Nat.strongRecOn with
  | _ d ih =>
    intro deep j hd h1 hdj hij hj
    by_cases hlt : j < s.size
    · have f1 : Hid (wrap64 ((deep : Int) - 1) = ((deep - 1 : Nat) : Int)) := Lib.hid ((w64 (x := (deep : Int) - 1) (by omega) (by omega)).trans (by omega))
      have f2 : Hid (wrap64 ((j : Int) + 8) = ((j + 8 : Nat) : Int)) := Lib.hid (w64 (by omega) (by omega))
      have f7 : Hid (wrap64 ((i0 : Int) + 7) = ((i0 + 7 : Nat) : Int)) := Lib.hid (w64 (by omega) (by omega))
      refine Evt.succ (fun k => rfl) ?_
      refine Evt.tt (by omega) ?_
      refine Evt.bind (Evt.of _ (starts_eq s (by omega) j (by omega) ⟨#[92, 60, 111, 112, 101, 110, 62]⟩ (by decide))) ?_
      rw [eb]
      by_cases hb : preAt s j opened = true
      · refine Evt.tt hb ?_
        have hD : stepD s opened closed j = 1 := by unfold stepD; rw [if_pos hb]
        have hW : stepW s opened closed j = 7 := by unfold stepW; rw [if_pos hb]; rfl
        rw [nestE_step _ _ _ (by decide) (by decide) _ _ hlt (by rw [hD]; omega), hD, hW]
        have e4 : (deep : Int) + 1 = ((deep + 1 : Nat) : Int) := by omega
        have e1 := Lib.hid (w64 (x := (deep : Int) + 1) (by omega) (by omega))
        have e2 := Lib.hid (w64 (x := (j : Int) + 7) (by omega) (by omega))
        have e5 : (j : Int) + 7 = ((j + 7 : Nat) : Int) := by omega
        rw [e1.out, e2.out, e4, e5]
        exact ih (s.size - (j + 7)) (by omega) (deep + 1) (j + 7) (Nat.le_refl _) (by omega) (by omega) (by omega) (by omega)
      · refine Evt.ff hb ?_
        refine Evt.bind (Evt.of _ (starts_eq s (by omega) j (by omega) ⟨#[92, 60, 99, 108, 111, 115, 101, 62]⟩ (by decide))) ?_
        rw [ee]
        by_cases he : preAt s j closed = true
        · refine Evt.tt he ?_
          have hle : j + 8 ≤ s.size := preAt_le he (by omega)
          have hD : stepD s opened closed j = -1 := by unfold stepD; rw [if_neg hb, if_pos he]
          have hW : stepW s opened closed j = 8 := by unfold stepW; rw [if_neg hb, if_pos he]; rfl
          simp only [f1.out, f2.out, f7.out]
          by_cases hz : deep = 1
          · rw [nestE_stop _ _ _ _ _ hlt (by rw [hD]; omega), hW]
            refine Evt.tt (by omega) (Evt.tt (by omega) (Evt.tt (by omega) (Evt.tt (by omega) ?_)))
            refine (Evt.const _).eq ?_
            rw [Int.toNat_natCast, Int.toNat_natCast]
            simp only [quP, Nat.add_sub_cancel]
          · rw [nestE_step _ _ _ (by decide) (by decide) _ _ hlt (by rw [hD]; omega), hD, hW]
            have e3 : (deep : Int) + -1 = ((deep - 1 : Nat) : Int) := by omega
            rw [e3]
            refine Evt.ff (by omega) ?_
            exact ih (s.size - (j + 8)) (by omega) (deep - 1) (j + 8) (Nat.le_refl _) (by omega) (by omega) (by omega) (by omega)
        · refine Evt.ff he ?_
          have hD : stepD s opened closed j = 0 := by unfold stepD; rw [if_neg hb, if_neg he]
          have hW : stepW s opened closed j = 1 := by unfold stepW; rw [if_neg hb, if_neg he]
          rw [nestE_step _ _ _ (by decide) (by decide) _ _ hlt (by rw [hD]; omega), hD, hW, Int.add_zero]
          have e2 : wrap64 ((j : Int) + 1) = ((j + 1 : Nat) : Int) := w64 (by omega) (by omega)
          rw [e2]
          exact ih (s.size - (j + 1)) (by omega) deep (j + 1) (Nat.le_refl _) (by omega) (by omega) (by omega) (by omega)
    · rw [nestE_end _ _ _ _ _ (by omega)]
      refine Evt.succ (fun k => rfl) ?_
      exact Evt.ff (by omega) (Evt.const _)
theorem quoted_ev (s : ByteArray) (hs : s.size ≤ 1000000000) (i : Nat) (hi : i < s.size) (hp : preAt s i opened = true) : Evt (fun k => triforiumref14_quoted.f k s i) (quP i s (nestE s opened closed i 0)) := by
  unfold triforiumref14_quoted.f
  have e7 : wrap64 ((i : Int) + 7) = ((i + 7 : Nat) : Int) := w64 (by omega) (by omega)
  have hD : stepD s opened closed i = 1 := by unfold stepD; rw [if_pos hp]
  have hW : stepW s opened closed i = 7 := by unfold stepW; rw [if_pos hp]; rfl
  rw [e7, nestE_step _ _ _ (by decide) (by decide) _ _ hi (by rw [hD]; omega), hD, hW]
  exact quoted_loop s hs i _ 1 (i + 7) (Nat.le_refl _) (by omega) (by omega) (Nat.le_refl _) (by omega)

theorem index_ev (s : ByteArray) (hs : s.size ≤ 1000000000) (i : Nat) (hi : i ≤ s.size) : Evt (fun k => triforiumref14_index.f k s i) (indexE s i : Int) := by
  unfold triforiumref14_index.f indexE
  have e1 : wrap64 ((i : Int) + 1) = ((i + 1 : Nat) : Int) := w64 (by omega) (by omega)
  rw [e1]
  by_cases hlt : i < s.size
  · have em : mn ((i + 1 : Nat) : Int) (s.size : Int) = ((i + 1 : Nat) : Int) := by unfold mn; rw [if_neg (by omega)]
    rw [em]
    refine Evt.bind (digits_ev s (by omega) (i + 1) (by omega)) ?_
    generalize whileE digitB s (i + 1) = e
    refine Evt.tt (by omega) (Evt.tt (by omega) ?_)
    by_cases hd : bt s i = 46
    · refine Evt.tt hd ?_
      by_cases hg : i + 1 < e
      · refine (Evt.tt (by omega) (Evt.const _)).eq ?_
        rw [if_pos hlt, if_pos hd, if_pos hg]
      · refine (Evt.ff (by omega) (Evt.const _)).eq ?_
        rw [if_pos hlt, if_pos hd, if_neg hg]
    · refine (Evt.ff hd (Evt.const _)).eq ?_
      rw [if_pos hlt, if_neg hd]
  · have em : mn ((i + 1 : Nat) : Int) (s.size : Int) = ((s.size : Nat) : Int) := by unfold mn; rw [if_pos (by omega)]
    rw [em]
    refine Evt.bind (digits_ev s (by omega) s.size (by omega)) ?_
    refine (Evt.ff (by omega) (Evt.const _)).eq ?_
    rw [if_neg hlt]

/-! what the best reader is, by the first byte -/
theorem preAt_cons (s : ByteArray) (i : Nat) (h : i < s.size) (c : UInt8) (t : List UInt8) : preAt s i (c :: t) = (decide (bt s i = (c.toNat : Int)) && preAt s (i + 1) t) := by
  unfold preAt
  have hl : i < s.data.toList.length := h
  rw [List.drop_eq_getElem_cons hl, List.isPrefixOf, bt_nat s i h]
  congr 1
  have e : s.data.toList[i]'hl = s[i]'h := rfl
  rw [e]
  by_cases he : c = s[i]'h
  · subst he
    simp
  · rw [beq_eq_false_iff_ne.2 he]
    symm
    rw [decide_eq_false_iff_not]
    intro e
    apply he
    apply UInt8.toNat_inj.1
    omega
theorem preAt_first {s : ByteArray} {i : Nat} {c : UInt8} {t : List UInt8} (h : i < s.size) (hp : preAt s i (c :: t) = true) : bt s i = (c.toNat : Int) := by
  rw [preAt_cons s i h] at hp
  simp only [Bool.and_eq_true, decide_eq_true_eq] at hp
  exact hp.1
theorem preAt_nil (s : ByteArray) (i : Nat) : preAt s i [] = true := by unfold preAt; simp [List.isPrefixOf]
theorem preAt_one (s : ByteArray) (i : Nat) (h : i < s.size) (c : UInt8) : preAt s i [c] = decide (bt s i = (c.toNat : Int)) := by
  rw [preAt_cons s i h, preAt_nil, Bool.and_true]

theorem ident_none {s : ByteArray} {i : Nat} (h : letterB (bt s i) = false) : identE s i = i := by
  unfold identE; split
  · rw [if_neg (by rw [h]; decide)]
  · rfl
theorem ident_some {s : ByteArray} {i : Nat} (hi : i < s.size) (h : letterB (bt s i) = true) : i < identE s i := by
  unfold identE
  rw [if_pos hi, if_pos h, whileE_hit identB s i hi (by unfold identB; rw [h]; rfl)]
  exact whileE_ge _ _ _
theorem names_none {s : ByteArray} {i : Nat} (h : letterB (bt s i) = false) : namesE s i = (1, i) := by
  unfold namesE; rw [ident_none h, if_neg (by omega)]
theorem mark_none {s : ByteArray} {i : Nat} (hi : i < s.size) {c : UInt8} {t : List UInt8} (h : bt s i ≠ (c.toNat : Int)) : markE s i (c :: t) = none := by
  unfold markE
  rw [if_neg]
  intro hp
  exact h (preAt_first hi hp)
theorem vars_none {s : ByteArray} {i : Nat} (hi : i < s.size) (h1 : bt s i ≠ 39) (h2 : bt s i ≠ 63) : varsE s i = (0, i) := by
  unfold varsE
  rw [mark_none hi (c := 39) h1, mark_none hi (c := 63) h2, mark_none hi (c := 63) h2]
theorem digits_none {s : ByteArray} {i : Nat} (hi : i < s.size) (h : digitB (bt s i) = false) : whileE digitB s i = i := whileE_miss _ _ _ hi h
theorem named_none {s : ByteArray} {i : Nat} (hi : i < s.size) (h : bt s i ≠ 92) : namedE s i = i := by
  unfold namedE
  rw [if_neg]
  intro hp
  exact h (preAt_first hi hp)
theorem run_none {s : ByteArray} {i : Nat} (hi : i < s.size) (h : signB (bt s i) = false) : runE s i = i := whileE_miss _ _ _ hi h
theorem sym_none {s : ByteArray} {i : Nat} (hi : i < s.size) (h1 : bt s i ≠ 92) (h2 : signB (bt s i) = false) (h3 : pointB (bt s i) = false) : symE s i = i := by
  unfold symE
  rw [named_none hi h1, run_none hi h2, Nat.max_self, if_pos rfl, if_neg (by rw [h3]; decide)]
theorem best_eq (s : ByteArray) (i : Nat) : bestE s i 4 = (
    let a : Int × Nat := if i < (namesE s i).2 then namesE s i else (0, i)
    let b := if a.2 < (varsE s i).2 then varsE s i else a
    let c := if b.2 < whileE digitB s i then (6, whileE digitB s i) else b
    if c.2 < symE s i then (7, symE s i) else c) := rfl
end Go.Proofs.YtmkfeanggmjhmaaGreat.L

/- The printed reference of tokens is the plain scanner: the token without keywords at a place is the longest one. -/
namespace Go.Proofs.YtmkfeanggmjhmaaGreat.L
set_option linter.unusedSimpArgs false
set_option linter.unusedVariables false
open Go Go.RowKit Go.Proofs.YtmkfeanggmjhmaaGreatW.PrintWords Go.Proofs.YtmkfeanggmjhmaaGreatW.PrintLast Go.Proofs.YtmkfeanggmjhmaaGreatW.PrintMore
open Go.Proofs.YtmkfeanggmjhmaaGreat.M Go.Proofs.YtmkfeanggmjhmaaGreat.E Go.Proofs.YtmkfeanggmjhmaaGreat.PTokenWrites

theorem sign_iff (c : Int) (h0 : 0 ≤ c) (h1 : c ≤ 255) : signB c = true ↔ (33 = c ∨ 35 = c ∨ 36 = c ∨ 37 = c ∨ 38 = c ∨ 42 = c ∨ 43 = c ∨ 45 = c ∨ 47 = c ∨ 58 = c ∨ 60 = c ∨ 61 = c ∨ 62 = c ∨ 64 = c ∨ 94 = c ∨ 124 = c ∨ 126 = c) := by
  rw [sign_has c h0 h1]
  unfold hasB signT
  simp only [List.any_cons, List.any_nil, Bool.or_false, Bool.or_eq_true, decide_eq_true_eq]
  exact Iff.rfl
theorem point_iff (c : Int) (h0 : 0 ≤ c) (h1 : c ≤ 255) : pointB c = true ↔ (40 = c ∨ 41 = c ∨ 91 = c ∨ 93 = c ∨ 123 = c ∨ 125 = c ∨ 44 = c ∨ 59 = c ∨ 46 = c) := by
  rw [point_has c h0 h1]
  unfold hasB pointT
  simp only [List.any_cons, List.any_nil, Bool.or_false, Bool.or_eq_true, decide_eq_true_eq]
  exact Iff.rfl
theorem letter_iff (c : Int) : letterB c = true ↔ (97 ≤ c ∧ c ≤ 122 ∨ 65 ≤ c ∧ c ≤ 90 ∨ c = 95) := by unfold letterB; exact decide_eq_true_iff
theorem digit_iff (c : Int) : digitB c = true ↔ (48 ≤ c ∧ c ≤ 57) := by unfold digitB; exact decide_eq_true_iff
theorem sign_no {c : Int} (h0 : 0 ≤ c) (h1 : c ≤ 255) (h : ¬ (33 = c ∨ 35 = c ∨ 36 = c ∨ 37 = c ∨ 38 = c ∨ 42 = c ∨ 43 = c ∨ 45 = c ∨ 47 = c ∨ 58 = c ∨ 60 = c ∨ 61 = c ∨ 62 = c ∨ 64 = c ∨ 94 = c ∨ 124 = c ∨ 126 = c)) : signB c = false :=
  Bool.eq_false_iff.2 (fun e => h ((sign_iff c h0 h1).1 e))
theorem point_no {c : Int} (h0 : 0 ≤ c) (h1 : c ≤ 255) (h : ¬ (40 = c ∨ 41 = c ∨ 91 = c ∨ 93 = c ∨ 123 = c ∨ 125 = c ∨ 44 = c ∨ 59 = c ∨ 46 = c)) : pointB c = false :=
  Bool.eq_false_iff.2 (fun e => h ((point_iff c h0 h1).1 e))
theorem letter_no {c : Int} (h : ¬ (97 ≤ c ∧ c ≤ 122 ∨ 65 ≤ c ∧ c ≤ 90 ∨ c = 95)) : letterB c = false := Bool.eq_false_iff.2 (fun e => h ((letter_iff c).1 e))
theorem digit_no {c : Int} (h : ¬ (48 ≤ c ∧ c ≤ 57)) : digitB c = false := Bool.eq_false_iff.2 (fun e => h ((digit_iff c).1 e))

/-- a reading that is as good as the best one -/
def Good (s : ByteArray) (i : Nat) (r : Int × Nat) : Prop := r.2 = (bestE s i 4).2 ∧ (r.2 ≠ i → r.1 = (bestE s i 4).1)

theorem words_loop (s : ByteArray) (hs : s.size ≤ 1000000000) : ∀ d (e : Nat) (kd : Int), s.size - e ≤ d → e ≤ s.size → Evt (fun k => triforiumref14_plain.l0 k s (e : Int) kd) ((wordE s kd e).1, ((wordE s kd e).2 : Int)) := by
  intro d
  induction d using Nat.strongRecOn with
  | _ d ih =>
    intro e kd hd he
    by_cases hlt : e < s.size
    · refine Evt.succ (fun k => rfl) ?_
      refine Evt.tt (by omega) (Evt.tt (by omega) ?_)
      by_cases h46 : bt s e = 46
      · refine Evt.tt h46 ?_
        have e1 : wrap64 ((e : Int) + 1) = ((e + 1 : Nat) : Int) := w64 (by omega) (by omega)
        simp only [e1]
        clear e1
        refine Evt.bind (ident_ev s (e + 1) (by omega) (by omega)) ?_
        have h1 := identE_ge s (e + 1)
        have h2 := identE_le s (e + 1) (by omega)
        by_cases hi : identE s (e + 1) = e + 1
        · refine (Evt.ff (by omega) (Evt.const _)).eq ?_
          rw [wordE_stop s kd e hlt hi]
        · refine Evt.tt (by omega) ?_
          refine Evt.bind (ident_ev s (e + 1) (by omega) (by omega)) ?_
          rw [wordE_step s kd e hlt h46 hi]
          exact ih (s.size - identE s (e + 1)) (by omega) _ 2 (Nat.le_refl _) h2
      · refine (Evt.ff h46 (Evt.const _)).eq ?_
        rw [wordE_dot s kd e hlt h46]
    · refine Evt.succ (fun k => rfl) ?_
      refine (Evt.ff (by omega) (Evt.const _)).eq ?_
      rw [wordE_end s kd e (by omega)]


section
variable (k : Nat) (s : ByteArray) (i c : Int)
theorem j1_t : triforiumref14_plain.j1 (k + 1) s i c true = (triforiumref14_ident.f k s (wrap64 (i + 1))).bind fun t131 => (some (3, t131)) := by rw [triforiumref14_plain.j1, if_pos rfl]
theorem j1_f : triforiumref14_plain.j1 (k + 1) s i c false = if c = 63 then ((triforiumref14_ident.f k s (wrap64 (i + 1))).bind fun t132 => (triforiumref14_plain.j2 k s i c (decide (t132 > (wrap64 (i + 1)))))) else (triforiumref14_plain.j2 k s i c false) := by rw [triforiumref14_plain.j1, if_neg (by decide)]
theorem j2_t : triforiumref14_plain.j2 (k + 1) s i c true = (triforiumref14_ident.f k s (wrap64 (i + 1))).bind fun t133 => ((triforiumref14_index.f k s t133).bind fun t134 => (some (4, t134))) := by rw [triforiumref14_plain.j2, if_pos rfl]
theorem j2_f : triforiumref14_plain.j2 (k + 1) s i c false = (triforiumref14_starts.f s i (⟨#[63, 39]⟩ : ByteArray)).bind fun t135 => (if t135 = true then ((triforiumref14_ident.f k s (wrap64 (i + 2))).bind fun t136 => (triforiumref14_plain.j3 k s i c (decide (t136 > (wrap64 (i + 2)))))) else (triforiumref14_plain.j3 k s i c false)) := by rw [triforiumref14_plain.j2, if_neg (by decide)]
theorem j3_t : triforiumref14_plain.j3 (k + 1) s i c true = (triforiumref14_ident.f k s (wrap64 (i + 2))).bind fun t137 => ((triforiumref14_index.f k s t137).bind fun t138 => (some (5, t138))) := by rw [triforiumref14_plain.j3, if_pos rfl]
theorem j3_f : triforiumref14_plain.j3 (k + 1) s i c false = (triforiumref14_digit.f c).bind fun t139 => (if t139 = true then ((triforiumref14_run.f k s i (⟨#[48, 49, 50, 51, 52, 53, 54, 55, 56, 57]⟩ : ByteArray)).bind fun t140 => (some (6, t140))) else ((triforiumref14_has.f k (⟨#[33, 35, 36, 37, 38, 42, 43, 45, 47, 58, 60, 61, 62, 64, 94, 124, 126]⟩ : ByteArray) c).bind fun t141 => (if t141 = true then ((triforiumref14_run.f k s i (⟨#[33, 35, 36, 37, 38, 42, 43, 45, 47, 58, 60, 61, 62, 64, 94, 124, 126]⟩ : ByteArray)).bind fun t142 => (some (7, t142))) else ((triforiumref14_has.f k (⟨#[40, 41, 91, 93, 123, 125, 44, 59, 46]⟩ : ByteArray) c).bind fun t143 => (if t143 = true then (some (7, wrap64 (i + 1))) else ((triforiumref14_named.f k s i).bind fun t144 => (some (7, t144)))))))) := by rw [triforiumref14_plain.j3, if_neg (by decide)]
end
/-- what is read where there is no name and no variable -/
def tailV (s : ByteArray) (i : Nat) : Int × Nat := if digitB (bt s i) then (6, whileE digitB s i) else if signB (bt s i) then (7, runE s i) else if pointB (bt s i) then (7, i + 1) else (7, namedE s i)
def castP (r : Int × Nat) : Int × Int := (r.1, (r.2 : Int))

theorem j3_false (s : ByteArray) (hs : s.size ≤ 1000000000) (i : Nat) (hi : i < s.size) : Evt (fun k => triforiumref14_plain.j3 k s i (bt s i) false) (castP (tailV s i)) := by
  refine Evt.succ (fun k => j3_f k s i (bt s i)) ?_
  refine Evt.bind (Evt.of _ (digit_eq _)) ?_
  unfold tailV
  have hr := bt_range s i
  by_cases h1 : digitB (bt s i) = true
  · rw [if_pos h1]
    refine Evt.tt h1 ?_
    refine Evt.bind (digits_ev s (by omega) i (by omega)) ?_
    exact Evt.const _
  · rw [if_neg h1]
    refine Evt.ff h1 ?_
    refine Evt.bind (has_ev signT (bt s i) (by decide)) ?_
    rw [← sign_has _ hr.1 hr.2]
    by_cases h2 : signB (bt s i) = true
    · rw [if_pos h2]
      refine Evt.tt h2 ?_
      refine Evt.bind (signs_ev s (by omega) i (by omega)) ?_
      exact Evt.const _
    · rw [if_neg h2]
      refine Evt.ff h2 ?_
      refine Evt.bind (has_ev pointT (bt s i) (by decide)) ?_
      rw [← point_has _ hr.1 hr.2]
      by_cases h3 : pointB (bt s i) = true
      · rw [if_pos h3]
        refine Evt.tt h3 ?_
        rw [w64 (x := (i : Int) + 1) (by omega) (by omega)]
        exact Evt.const _
      · rw [if_neg h3]
        refine Evt.ff h3 ?_
        refine Evt.bind (named_ev s hs i (by omega)) ?_
        exact Evt.const _
theorem j2_none (s : ByteArray) (hs : s.size ≤ 1000000000) (i : Nat) (hi : i < s.size) (h : bt s i ≠ 63) : Evt (fun k => triforiumref14_plain.j2 k s i (bt s i) false) (castP (tailV s i)) := by
  refine Evt.succ (fun k => j2_f k s i (bt s i)) ?_
  refine Evt.bind (Evt.of _ (starts_eq s (by omega) i (by omega) ⟨#[63, 39]⟩ (by decide))) ?_
  have e : (⟨#[63, 39]⟩ : ByteArray).data.toList = [63, 39] := rfl
  rw [e]
  refine Evt.ff (fun hp => h (preAt_first hi hp)) ?_
  exact j3_false s hs i hi
theorem j1_none (s : ByteArray) (hs : s.size ≤ 1000000000) (i : Nat) (hi : i < s.size) (h : bt s i ≠ 63) : Evt (fun k => triforiumref14_plain.j1 k s i (bt s i) false) (castP (tailV s i)) := by
  refine Evt.succ (fun k => j1_f k s i (bt s i)) ?_
  refine Evt.ff (c := bt s i = 63) h ?_
  exact j2_none s hs i hi h

/-- the tail is best where names and variables give nothing -/
theorem tail_good (s : ByteArray) (i : Nat) (hi : i < s.size) (hl : letterB (bt s i) = false) (hv : varsE s i = (0, i)) (h39 : digitB (bt s i) = true ∨ signB (bt s i) = true ∨ pointB (bt s i) = true ∨ True) : Good s i (tailV s i) := by
  have hr := bt_range s i
  unfold Good tailV
  rw [best_eq, names_none hl, hv]
  simp only [Nat.lt_irrefl, if_false]
  by_cases h1 : digitB (bt s i) = true
  · have hd := (digit_iff _).1 h1
    have hg : i < whileE digitB s i := by rw [whileE_hit _ _ _ hi h1]; exact whileE_ge _ _ _
    have hy : symE s i = i := sym_none hi (by omega) (sign_no hr.1 hr.2 (by omega)) (point_no hr.1 hr.2 (by omega))
    rw [if_pos h1, if_pos hg, hy, if_neg (by simp only; omega)]
    exact ⟨rfl, fun _ => rfl⟩
  · have hd := digits_none hi (Bool.eq_false_iff.2 h1)
    rw [if_neg h1, hd]
    simp only [Nat.lt_irrefl, if_false]
    by_cases h2 : signB (bt s i) = true
    · have hsg := (sign_iff _ hr.1 hr.2).1 h2
      have hn := named_none hi (show bt s i ≠ 92 by omega)
      have hg : i < runE s i := by unfold runE; rw [whileE_hit _ _ _ hi h2]; exact whileE_ge _ _ _
      have hy : symE s i = runE s i := by
        unfold symE
        rw [hn, if_neg (by omega)]
        omega
      rw [if_pos h2, hy, if_pos hg]
      exact ⟨rfl, fun _ => rfl⟩
    · rw [if_neg h2]
      have hrn := run_none hi (Bool.eq_false_iff.2 h2)
      by_cases h3 : pointB (bt s i) = true
      · have hpt := (point_iff _ hr.1 hr.2).1 h3
        have hn := named_none hi (show bt s i ≠ 92 by omega)
        have hy : symE s i = i + 1 := by
          unfold symE
          rw [hn, hrn, Nat.max_self, if_pos rfl, if_pos h3]
        rw [if_pos h3, hy, if_pos (by omega)]
        exact ⟨rfl, fun _ => rfl⟩
      · rw [if_neg h3]
        have hge := namedE_ge s i
        have hy : symE s i = namedE s i := by
          unfold symE
          rw [hrn]
          by_cases he : namedE s i = i
          · rw [he, Nat.max_self, if_pos rfl, if_neg h3]
          · rw [if_neg (by omega)]; omega
        rw [hy]
        by_cases he : i < namedE s i
        · rw [if_pos he]
          exact ⟨rfl, fun _ => rfl⟩
        · rw [if_neg he]
          exact ⟨by simp only; omega, fun h => absurd (by simp only; omega) h⟩

theorem bt_letter_39 {c : Int} (h : letterB c = true) : c ≠ 39 := by have := (letter_iff c).1 h; omega
theorem ident_pos {s : ByteArray} {i : Nat} (h : i < identE s i) : i < s.size ∧ letterB (bt s i) = true := by
  unfold identE at h
  split at h
  · rename_i hi
    split at h
    · rename_i hl; exact ⟨hi, hl⟩
    · omega
  · omega

theorem mark_some {s : ByteArray} {i : Nat} {m : List UInt8} (hp : preAt s i m = true) (h : i + m.length < identE s (i + m.length)) : markE s i m = some (identE s (i + m.length)) := by
  unfold markE; rw [if_pos hp, if_pos h]
theorem mark_not {s : ByteArray} {i : Nat} {m : List UInt8} (h : identE s (i + m.length) = i + m.length) : markE s i m = none := by
  unfold markE; split
  · rw [if_neg (by omega)]
  · rfl
theorem mark_pre {s : ByteArray} {i : Nat} {m : List UInt8} (h : preAt s i m = false) : markE s i m = none := by
  unfold markE; rw [if_neg (by rw [h]; decide)]

/-- where a variable stands, it is best -/
theorem vars_good (s : ByteArray) (i : Nat) (hi : i < s.size) (h39 : bt s i = 39 ∨ bt s i = 63) (k : Int) (e : Nat) (hv : varsE s i = (k, e)) (he : i < e) : Good s i (k, e) := by
  have hr := bt_range s i
  have hy : symE s i = i := sym_none hi (by omega) (sign_no hr.1 hr.2 (by omega)) (point_no hr.1 hr.2 (by omega))
  unfold Good
  rw [best_eq, names_none (letter_no (by omega)), hv]
  simp only [Nat.lt_irrefl, if_false, if_pos he]
  rw [digits_none hi (digit_no (by omega)), hy]
  simp only [if_neg (show ¬ e < i by omega), true_and, implies_true]

theorem plain_ev (s : ByteArray) (hs : s.size ≤ 1000000000) (i : Nat) (hi : i < s.size) : ∃ r : Int × Nat, Good s i r ∧ i ≤ r.2 ∧ r.2 ≤ s.size ∧ Evt (fun k => triforiumref14_plain.f k s i) (castP r) := by
  have hr := bt_range s i
  have hb := bestE_le s i hi 4
  suffices h : ∃ r : Int × Nat, Good s i r ∧ Evt (fun k => triforiumref14_plain.f k s i) (castP r) by
    obtain ⟨r, hg, he⟩ := h
    exact ⟨r, hg, by rw [hg.1]; exact hb.1, by rw [hg.1]; exact hb.2, he⟩
  have e1 := Lib.hid (w64 (x := (i : Int) + 1) (by omega) (by omega))
  have e2 := Lib.hid (w64 (x := (i : Int) + 2) (by omega) (by omega))
  have c1 : (i : Int) + 1 = ((i + 1 : Nat) : Int) := by omega
  have c2 : (i : Int) + 2 = ((i + 2 : Nat) : Int) := by omega
  rw [c1] at e1
  rw [c2] at e2
  unfold triforiumref14_plain.f
  rw [c1, e1.out]
  by_cases h1 : letterB (bt s i) = true
  · refine ⟨namesE s i, ?_, ?_⟩
    · have hl := (letter_iff _).1 h1
      have hy : symE s i = i := sym_none hi (by omega) (sign_no hr.1 hr.2 (by omega)) (point_no hr.1 hr.2 (by omega))
      have hg : i < (namesE s i).2 := by
        have a := ident_some hi h1
        unfold namesE
        rw [if_pos a]
        unfold wordE
        have := wordF_le s (s.size - identE s i) 1 (identE s i) (identE_le s i (by omega))
        omega
      unfold Good
      rw [best_eq, vars_none hi (by omega) (by omega), digits_none hi (digit_no (by omega)), hy]
      simp only [if_pos hg, if_neg (show ¬ (namesE s i).2 < i by omega), true_and, implies_true]
    · refine Evt.tt (by omega) (Evt.tt (by omega) ?_)
      refine Evt.bind (Evt.of _ (letter_eq _)) ?_
      refine Evt.tt h1 ?_
      refine Evt.bind (ident_ev s i (by omega) (by omega)) ?_
      have hw : namesE s i = wordE s 1 (identE s i) := by unfold namesE; rw [if_pos (ident_some hi h1)]
      rw [hw]
      exact words_loop s hs _ _ 1 (Nat.le_refl _) (identE_le s i (by omega))
  · have hlf := Bool.eq_false_iff.2 h1
    by_cases h39 : bt s i = 39
    · have hp39 : preAt s i [39] = true := by rw [preAt_one s i hi]; exact decide_eq_true h39
      by_cases ha : i + 1 < identE s (i + 1)
      · refine ⟨(3, identE s (i + 1)), vars_good s i hi (.inl h39) _ _ ?_ (by omega), ?_⟩
        · unfold varsE; rw [mark_some hp39 ha]; rfl
        · refine Evt.tt (by omega) (Evt.tt (by omega) ?_)
          refine Evt.bind (Evt.of _ (letter_eq _)) ?_
          refine Evt.ff h1 (Evt.tt h39 ?_)
          refine Evt.bind (ident_ev s (i + 1) (by omega) (by omega)) ?_
          rw [decide_eq_true (show ((identE s (i + 1) : Nat) : Int) > ((i + 1 : Nat) : Int) by omega)]
          refine Evt.succ (fun k => j1_t k s i (bt s i)) ?_
          rw [c1, e1.out]
          refine Evt.bind (ident_ev s (i + 1) (by omega) (by omega)) ?_
          exact Evt.const _
      · have hge := identE_ge s (i + 1)
        have hn : identE s (i + 1) = i + 1 := by omega
        have hv : varsE s i = (0, i) := by
          unfold varsE
          rw [mark_not (m := [39]) hn, mark_none hi (c := 63) (t := [39]) (show bt s i ≠ 63 by omega), mark_none hi (c := 63) (t := []) (show bt s i ≠ 63 by omega)]
        refine ⟨_, tail_good s i hi hlf hv (.inr (.inr (.inr trivial))), ?_⟩
        refine Evt.tt (by omega) (Evt.tt (by omega) ?_)
        refine Evt.bind (Evt.of _ (letter_eq _)) ?_
        refine Evt.ff h1 (Evt.tt h39 ?_)
        refine Evt.bind (ident_ev s (i + 1) (by omega) (by omega)) ?_
        rw [decide_eq_false (show ¬ ((identE s (i + 1) : Nat) : Int) > ((i + 1 : Nat) : Int) by omega)]
        exact j1_none s hs i hi (by omega)
    · by_cases h63 : bt s i = 63
      · have hm1 : markE s i [39] = none := mark_none hi (c := 39) (t := []) (show bt s i ≠ 39 by omega)
        have hp63 : preAt s i [63] = true := by rw [preAt_one s i hi]; exact decide_eq_true h63
        by_cases ha : i + 1 < identE s (i + 1)
        · obtain ⟨hi1, hl1⟩ := ident_pos ha
          have hno : preAt s i [63, 39] = false := by
            rw [preAt_cons s i hi, preAt_one s (i + 1) hi1, decide_eq_false (show ¬ bt s ((i + 1 : Nat) : Int) = ((39 : UInt8).toNat : Int) from bt_letter_39 hl1), Bool.and_false]
          have hle := identE_le s (i + 1) (by omega)
          have hin := indexE_le s (identE s (i + 1)) hle
          refine ⟨(4, indexE s (identE s (i + 1))), vars_good s i hi (.inr h63) _ _ ?_ (by omega), ?_⟩
          · unfold varsE; rw [hm1, mark_pre hno, mark_some hp63 ha]; rfl
          · refine Evt.tt (by omega) (Evt.tt (by omega) ?_)
            refine Evt.bind (Evt.of _ (letter_eq _)) ?_
            refine Evt.ff h1 (Evt.ff h39 ?_)
            refine Evt.succ (fun k => j1_f k s i (bt s i)) ?_
            refine Evt.tt (c := bt s i = 63) h63 ?_
            rw [c1, e1.out]
            refine Evt.bind (ident_ev s (i + 1) (by omega) (by omega)) ?_
            rw [decide_eq_true (show ((identE s (i + 1) : Nat) : Int) > ((i + 1 : Nat) : Int) by omega)]
            refine Evt.succ (fun k => j2_t k s i (bt s i)) ?_
            rw [c1, e1.out]
            refine Evt.bind (ident_ev s (i + 1) (by omega) (by omega)) ?_
            refine Evt.bind (index_ev s hs _ hle) ?_
            exact Evt.const _
        · have hge := identE_ge s (i + 1)
          have hn : identE s (i + 1) = i + 1 := by omega
          have hm3 : markE s i [63] = none := mark_not (m := [63]) hn
          have hcom : ∀ {r : Int × Int}, Evt (fun k => triforiumref14_plain.j2 k s i (bt s i) false) r → Evt (fun k => if (0 : Int) ≤ (i : Int) then (if (i : Int) < (s.size : Int) then ((triforiumref14_letter.f (bt s i)).bind fun t126 => (if t126 = true then ((triforiumref14_ident.f k s i).bind fun t127 => (triforiumref14_plain.l0 k s t127 1)) else (if (bt s i) = 39 then ((triforiumref14_ident.f k s ((i + 1 : Nat) : Int)).bind fun t130 => (triforiumref14_plain.j1 k s i (bt s i) (decide (t130 > ((i + 1 : Nat) : Int))))) else (triforiumref14_plain.j1 k s i (bt s i) false)))) else (none)) else (none)) r := by
            intro r hj
            refine Evt.tt (by omega) (Evt.tt (by omega) ?_)
            refine Evt.bind (Evt.of _ (letter_eq _)) ?_
            refine Evt.ff h1 (Evt.ff h39 ?_)
            refine Evt.succ (fun k => j1_f k s i (bt s i)) ?_
            refine Evt.tt (c := bt s i = 63) h63 ?_
            rw [c1, e1.out]
            refine Evt.bind (ident_ev s (i + 1) (by omega) (by omega)) ?_
            rw [decide_eq_false (show ¬ ((identE s (i + 1) : Nat) : Int) > ((i + 1 : Nat) : Int) by omega)]
            exact hj
          have e : (⟨#[63, 39]⟩ : ByteArray).data.toList = [63, 39] := rfl
          by_cases hp : preAt s i [63, 39] = true
          · have hle2 := preAt_le hp (by omega)
            simp only [List.length_cons, List.length_nil] at hle2
            by_cases hb2 : i + 2 < identE s (i + 2)
            · have hle := identE_le s (i + 2) (by omega)
              have hin := indexE_le s (identE s (i + 2)) hle
              refine ⟨(5, indexE s (identE s (i + 2))), vars_good s i hi (.inr h63) _ _ ?_ (by omega), hcom ?_⟩
              · unfold varsE; rw [hm1, mark_some hp hb2]; rfl
              · refine Evt.succ (fun k => rfl) ?_
                refine Evt.ff (g := fun _ => some (0, 0)) (c := false = true) (by decide) ?_
                refine Evt.bind (Evt.of _ (starts_eq s (by omega) i (by omega) ⟨#[63, 39]⟩ (by decide))) ?_
                rw [e]
                refine Evt.tt hp ?_
                rw [c2, e2.out]
                refine Evt.bind (ident_ev s (i + 2) (by omega) (by omega)) ?_
                rw [decide_eq_true (show ((identE s (i + 2) : Nat) : Int) > ((i + 2 : Nat) : Int) by omega)]
                refine Evt.succ (fun k => j3_t k s i (bt s i)) ?_
                rw [c2, e2.out]
                refine Evt.bind (ident_ev s (i + 2) (by omega) (by omega)) ?_
                refine Evt.bind (index_ev s hs _ hle) ?_
                exact Evt.const _
            · have hge2 := identE_ge s (i + 2)
              have hn2 : identE s (i + 2) = i + 2 := by omega
              have hv : varsE s i = (0, i) := by
                unfold varsE
                rw [hm1, mark_not (m := [63, 39]) hn2, hm3]
              refine ⟨_, tail_good s i hi hlf hv (.inr (.inr (.inr trivial))), hcom ?_⟩
              refine Evt.succ (fun k => j2_f k s i (bt s i)) ?_
              refine Evt.bind (Evt.of _ (starts_eq s (by omega) i (by omega) ⟨#[63, 39]⟩ (by decide))) ?_
              rw [e]
              refine Evt.tt hp ?_
              rw [c2, e2.out]
              refine Evt.bind (ident_ev s (i + 2) (by omega) (by omega)) ?_
              rw [decide_eq_false (show ¬ ((identE s (i + 2) : Nat) : Int) > ((i + 2 : Nat) : Int) by omega)]
              exact j3_false s hs i hi
          · have hv : varsE s i = (0, i) := by
              unfold varsE
              rw [hm1, mark_pre (m := [63, 39]) (Bool.eq_false_iff.2 hp), hm3]
            refine ⟨_, tail_good s i hi hlf hv (.inr (.inr (.inr trivial))), hcom ?_⟩
            refine Evt.succ (fun k => j2_f k s i (bt s i)) ?_
            refine Evt.bind (Evt.of _ (starts_eq s (by omega) i (by omega) ⟨#[63, 39]⟩ (by decide))) ?_
            rw [e]
            refine Evt.ff hp ?_
            exact j3_false s hs i hi
      · refine ⟨_, tail_good s i hi hlf (vars_none hi h39 h63) (.inr (.inr (.inr trivial))), ?_⟩
        refine Evt.tt (by omega) (Evt.tt (by omega) ?_)
        refine Evt.bind (Evt.of _ (letter_eq _)) ?_
        refine Evt.ff h1 (Evt.ff h39 ?_)
        exact j1_none s hs i hi h63
end Go.Proofs.YtmkfeanggmjhmaaGreat.L
namespace Go.Proofs.YtmkfeanggmjhmaaGreat.L
set_option linter.unusedSimpArgs false
set_option linter.unusedVariables false
open Go Go.RowKit Go.Proofs.YtmkfeanggmjhmaaGreatW.PrintWords Go.Proofs.YtmkfeanggmjhmaaGreatW.PrintLast Go.Proofs.YtmkfeanggmjhmaaGreatW.PrintMore
open Go.Proofs.YtmkfeanggmjhmaaGreat.M Go.Proofs.YtmkfeanggmjhmaaGreat.E Go.Proofs.YtmkfeanggmjhmaaGreat.PTokenWrites

theorem pre_drop {s : ByteArray} {i : Nat} {x : ByteArray} (hp : preAt s i x.data.toList = true) : ∃ r, s.data.toList.drop i = x.data.toList ++ r := by
  unfold preAt at hp
  obtain ⟨r, hr⟩ := List.isPrefixOf_iff_prefix.1 hp
  exact ⟨r, hr.symm⟩
theorem bt_list (s : ByteArray) (i : Nat) : bt s i = (match s.data.toList[i]? with | some b => (b.toNat : Int) | none => 0) := by
  by_cases h : i < s.size
  · have hl : i < s.data.toList.length := h
    rw [bt_nat s i h, List.getElem?_eq_getElem hl]
    rfl
  · have hl : s.data.toList.length ≤ i := Nat.le_of_not_lt h
    rw [List.getElem?_eq_none hl]
    unfold bt
    rw [Int.toNat_natCast, dif_neg h]
theorem bt_pre {s : ByteArray} {i : Nat} {x : ByteArray} (hp : preAt s i x.data.toList = true) (j : Nat) (hj : j < x.size) : bt s ((i + j : Nat) : Int) = bt x j := by
  obtain ⟨r, hr⟩ := pre_drop hp
  have hl : j < x.data.toList.length := hj
  rw [bt_list, bt_list, ← List.getElem?_drop, hr, List.getElem?_append_left hl]
theorem pre_size {s : ByteArray} {i : Nat} {x : ByteArray} (hp : preAt s i x.data.toList = true) (hi : i ≤ s.size) : i + x.size ≤ s.size := preAt_le hp hi

theorem while_shift (p : Int → Bool) {s : ByteArray} {i : Nat} {x : ByteArray} (hp : preAt s i x.data.toList = true) (hi : i ≤ s.size) : ∀ d j : Nat, x.size - j ≤ d → whileE p x j < x.size → whileE p s (i + j) = i + whileE p x j := by
  have hsz := pre_size hp hi
  intro d
  induction d with
  | zero =>
    intro j hd hlt
    have := whileE_ge p x j
    omega
  | succ d ih =>
    intro j hd hlt
    have hge := whileE_ge p x j
    have hjx : j < x.size := by omega
    have hb := bt_pre hp j hjx
    cases hc : p (bt x j) with
    | true =>
      rw [whileE_hit p x j hjx hc] at hlt ⊢
      rw [whileE_hit p s (i + j) (by omega) (by rw [hb]; exact hc)]
      exact ih (j + 1) (by omega) hlt
    | false =>
      rw [whileE_miss p x j hjx hc, whileE_miss p s (i + j) (by omega) (by rw [hb]; exact hc)]
theorem while_all (p : Int → Bool) {s : ByteArray} {i : Nat} {x : ByteArray} (hp : preAt s i x.data.toList = true) (hi : i ≤ s.size) : ∀ d j : Nat, x.size - j ≤ d → whileE p x j = x.size → i + x.size ≤ whileE p s (i + j) := by
  have hsz := pre_size hp hi
  intro d
  induction d with
  | zero =>
    intro j hd he
    have := whileE_ge p s (i + j)
    omega
  | succ d ih =>
    intro j hd he
    by_cases hj : j < x.size
    · have hb := bt_pre hp j hj
      cases hc : p (bt x j) with
      | true =>
        rw [whileE_hit p x j hj hc] at he
        rw [whileE_hit p s (i + j) (by omega) (by rw [hb]; exact hc)]
        exact ih (j + 1) (by omega) he
      | false =>
        rw [whileE_miss p x j hj hc] at he
        omega
    · have := whileE_ge p s (i + j)
      omega
theorem pre_trans {s : ByteArray} {i : Nat} {x : ByteArray} (hp : preAt s i x.data.toList = true) {m : List UInt8} (hm : preAt x 0 m = true) : preAt s i m = true := by
  unfold preAt at hp hm ⊢
  rw [List.drop_zero] at hm
  exact List.isPrefixOf_iff_prefix.2 ((List.isPrefixOf_iff_prefix.1 hm).trans (List.isPrefixOf_iff_prefix.1 hp))

theorem named_shift {s : ByteArray} {i : Nat} {x : ByteArray} (hp : preAt s i x.data.toList = true) (hi : i ≤ s.size) (h0 : 0 < x.size) (hn : namedE x 0 = x.size) : namedE s i = i + x.size ∧ bt s i = 92 := by
  have hsz := pre_size hp hi
  unfold namedE at hn
  split at hn
  · rename_i hm
    have hm2 := preAt_le hm (by omega)
    simp only [List.length_cons, List.length_nil] at hm2
    have h92 : bt s i = 92 := by
      have := preAt_first (c := 92) (t := [60]) (by omega) hm
      have hb := bt_pre hp 0 h0
      rw [Nat.add_zero] at hb
      rw [hb]; exact this
    refine ⟨?_, h92⟩
    split at hn
    · omega
    · rename_i hno
      have n1 : identE x (0 + 2) ≠ 0 + 2 := fun e => hno (.inl e)
      have n2 : identE x (0 + 2) ≠ x.size := fun e => hno (.inr (.inl e))
      have n3 : bt x (identE x (0 + 2)) = 62 := Decidable.byContradiction (fun e => hno (.inr (.inr e)))
      have hle := identE_le x (0 + 2) (by omega)
      have hge := identE_ge x (0 + 2)
      have hlt2 : 0 + 2 < identE x (0 + 2) := by omega
      obtain ⟨a1, a2⟩ := ident_pos hlt2
      have hid : identE x (0 + 2) = whileE identB x (0 + 2) := by unfold identE; rw [if_pos a1, if_pos a2]
      have hbs := bt_pre hp (0 + 2) a1
      have e0 : i + (0 + 2) = i + 2 := by omega
      rw [e0] at hbs
      have hids : identE s (i + 2) = whileE identB s (i + 2) := by unfold identE; rw [if_pos (by omega), if_pos (by rw [hbs]; exact a2)]
      have hsh := while_shift identB hp hi _ (0 + 2) (Nat.le_refl _) (by rw [← hid]; omega)
      rw [e0, ← hids, ← hid] at hsh
      have hb2 := bt_pre hp (identE x (0 + 2)) (by omega)
      unfold namedE
      rw [if_pos (pre_trans hp hm), hsh, if_neg]
      · omega
      · rintro (h | h | h)
        · omega
        · omega
        · rw [hb2] at h
          exact h n3
  · omega

/-- a keyword at a place, no shorter than the best reading, that begins with no letter, is the best reading, and that is a symbol -/
theorem kw_sym {s : ByteArray} {i : Nat} (hi : i < s.size) {x : ByteArray} (hk : kwB x = true) (hp : preAt s i x.data.toList = true) (hl : letterB (bt x ((0 : Nat) : Int)) = false) {r : Int × Nat} (hg : Good s i r) (hle : r.2 ≤ i + x.size) : r = (7, i + x.size) := by
  have hsz := pre_size hp (by omega)
  unfold kwB at hk
  simp only [Bool.and_eq_true, Bool.not_eq_true', Bool.or_eq_false_iff, decide_eq_false_iff_not, Bool.or_eq_true, decide_eq_true_eq] at hk
  obtain ⟨⟨⟨⟨h0, h40⟩, hop⟩, hcl⟩, hk⟩ := hk
  have h0' : 0 < x.size := by omega
  have hb := bt_pre hp 0 h0'
  rw [Nat.add_zero] at hb
  have hls : letterB (bt s i) = false := by rw [hb]; exact hl
  have hr := bt_range s i
  have key : bestE s i 4 = (7, i + x.size) ∨ (bestE s i 4).1 = 7 ∧ i + x.size ≤ (bestE s i 4).2 := by
    rcases hk with ((hk | hk) | hk) | ⟨hk, hk2⟩
    · have hi0 : identE x 0 = 0 := ident_none hl
      omega
    · -- a run of signs
      have hsg : signB (bt s i) = true := by
        rw [hb]
        cases hc : signB (bt x 0) with
        | true => rfl
        | false =>
          have := run_none h0' hc
          unfold runE at hk this
          rw [this] at hk
          omega
      have hal := while_all signB hp (by omega) _ 0 (Nat.le_refl _) hk
      rw [Nat.add_zero] at hal
      have hsi := (sign_iff _ hr.1 hr.2).1 hsg
      have hy : symE s i = runE s i := by
        unfold symE
        rw [named_none hi (by omega), if_neg (by unfold runE; omega)]
        unfold runE
        omega
      right
      rw [best_eq, names_none hls, vars_none hi (by omega) (by omega), digits_none hi (digit_no (by omega)), hy]
      simp only [Nat.lt_irrefl, if_false]
      rw [if_pos (by unfold runE; omega)]
      exact ⟨rfl, hal⟩
    · -- a named symbol
      obtain ⟨hn, h92⟩ := named_shift hp (by omega) h0' hk
      have hy : symE s i = i + x.size := by
        unfold symE
        rw [hn, run_none hi (sign_no hr.1 hr.2 (by omega)), if_neg (by omega)]
        omega
      left
      rw [best_eq, names_none hls, vars_none hi (by omega) (by omega), digits_none hi (digit_no (by omega)), hy]
      simp only [Nat.lt_irrefl, if_false]
      rw [if_pos (by omega)]
    · -- a point
      have hpt : pointB (bt s i) = true := by rw [hb]; exact hk2
      have hpi := (point_iff _ hr.1 hr.2).1 hpt
      have hy : symE s i = i + x.size := by
        unfold symE
        rw [named_none hi (by omega), run_none hi (sign_no hr.1 hr.2 (by omega)), Nat.max_self, if_pos rfl, if_pos hpt, hk]
      left
      rw [best_eq, names_none hls, vars_none hi (by omega) (by omega), digits_none hi (digit_no (by omega)), hy]
      simp only [Nat.lt_irrefl, if_false]
      rw [if_pos (by omega)]
  obtain ⟨g1, g2⟩ := hg
  obtain ⟨rk, re⟩ := r
  simp only at g1 g2 hle
  rcases key with key | ⟨k1, k2⟩
  · rw [key] at g1 g2
    simp only at g1 g2
    subst g1
    rw [g2 (by omega)]
  · have : re = i + x.size := by omega
    subst this
    rw [g2 (by omega), k1]

/-- where a letter stands, the best reading is a name -/
theorem good_letter {s : ByteArray} {i : Nat} (hi : i < s.size) (hl : letterB (bt s i) = true) {r : Int × Nat} (hg : Good s i r) : i < r.2 ∧ (r.1 = 1 ∨ r.1 = 2) := by
  have hr := bt_range s i
  have hli := (letter_iff _).1 hl
  have a := ident_some hi hl
  have hy : symE s i = i := sym_none hi (by omega) (sign_no hr.1 hr.2 (by omega)) (point_no hr.1 hr.2 (by omega))
  have hw : namesE s i = wordE s 1 (identE s i) := by unfold namesE; rw [if_pos a]
  have hle := identE_le s i (by omega)
  have h2 : i < (namesE s i).2 := by
    rw [hw]
    have := wordF_le s (s.size - identE s i) 1 (identE s i) hle
    unfold wordE
    omega
  have hkind : ∀ d k e, (k = 1 ∨ k = 2) → (wordF s d k e).1 = 1 ∨ (wordF s d k e).1 = 2 := by
    intro d
    induction d with
    | zero => intro k e h; exact h
    | succ d ih =>
      intro k e h
      unfold wordF
      split
      · split
        · split
          · exact h
          · exact ih 2 _ (.inr rfl)
        · exact h
      · exact h
  have h1 : (namesE s i).1 = 1 ∨ (namesE s i).1 = 2 := by rw [hw]; exact hkind _ 1 _ (.inl rfl)
  have hbest : bestE s i 4 = namesE s i := by
    rw [best_eq, vars_none hi (by omega) (by omega), digits_none hi (digit_no (by omega)), hy]
    simp only [if_pos h2, if_neg (show ¬ (namesE s i).2 < i by omega)]
  obtain ⟨g1, g2⟩ := hg
  rw [hbest] at g1 g2
  have h3 : i < r.2 := by omega
  exact ⟨h3, by rw [g2 (by omega)]; exact h1⟩
end Go.Proofs.YtmkfeanggmjhmaaGreat.L
