/- What the scanner of tokens computes, as plain functions on bytes and places.  It names no program. -/
import Derived.Test.YtmkfeanggmjhmaaGreatWMore
namespace Go.Proofs.YtmkfeanggmjhmaaGreat.M
set_option linter.unusedSimpArgs false
set_option linter.unusedVariables false
open Go Go.RowKit Go.Proofs.YtmkfeanggmjhmaaGreatW.PrintWords

def letterB (c : Int) : Bool := decide (97 ≤ c ∧ c ≤ 122 ∨ 65 ≤ c ∧ c ≤ 90 ∨ c = 95)
def digitB (c : Int) : Bool := decide (48 ≤ c ∧ c ≤ 57)
def identB (c : Int) : Bool := letterB c || digitB c || decide (c = 39)
def signs : List UInt8 := [33, 35, 36, 37, 38, 42, 43, 45, 47, 58, 60, 61, 62, 64, 94, 124, 126]
def points : List UInt8 := [40, 41, 91, 93, 123, 125, 44, 59, 46]
def signB (c : Int) : Bool := signs.contains c.toNat.toUInt8
def pointB (c : Int) : Bool := points.contains c.toNat.toUInt8
def blankB (c : Int) : Bool := decide (c = 32 ∨ c = 9 ∨ c = 10 ∨ c = 13)

def skipW (p : Int → Bool) (s : ByteArray) : Nat → Nat → Nat
  | 0, i => i
  | d + 1, i => if p (bt s i) then skipW p s d (i + 1) else i
/-- the place behind the bytes from i on that are of a kind -/
def whileE (p : Int → Bool) (s : ByteArray) (i : Nat) : Nat := skipW p s (s.size - i) i

theorem whileE_end (p : Int → Bool) (s : ByteArray) (i : Nat) (h : s.size ≤ i) : whileE p s i = i := by
  unfold whileE; rw [show s.size - i = 0 by omega]; rfl
theorem whileE_hit (p : Int → Bool) (s : ByteArray) (i : Nat) (h : i < s.size) (hp : p (bt s i) = true) : whileE p s i = whileE p s (i + 1) := by
  unfold whileE; obtain ⟨d, hd⟩ : ∃ d, s.size - i = d + 1 := ⟨s.size - i - 1, by omega⟩
  rw [hd, show s.size - (i + 1) = d by omega, skipW, if_pos hp]
theorem whileE_miss (p : Int → Bool) (s : ByteArray) (i : Nat) (h : i < s.size) (hp : p (bt s i) = false) : whileE p s i = i := by
  unfold whileE; obtain ⟨d, hd⟩ : ∃ d, s.size - i = d + 1 := ⟨s.size - i - 1, by omega⟩
  rw [hd, skipW, if_neg (by rw [hp]; decide)]
theorem skipW_le (p : Int → Bool) (s : ByteArray) : ∀ d i, i ≤ skipW p s d i ∧ skipW p s d i ≤ i + d
  | 0, i => ⟨Nat.le_refl _, by simp [skipW]⟩
  | d + 1, i => by
    unfold skipW
    split
    · have := skipW_le p s d (i + 1); omega
    · omega
theorem whileE_ge (p : Int → Bool) (s : ByteArray) (i : Nat) : i ≤ whileE p s i := (skipW_le p s _ i).1
theorem whileE_le (p : Int → Bool) (s : ByteArray) (i : Nat) (h : i ≤ s.size) : whileE p s i ≤ s.size := by
  have := (skipW_le p s (s.size - i) i).2; unfold whileE; omega

/-- does a text stand at a place? -/
def preAt (s : ByteArray) (i : Nat) (t : List UInt8) : Bool := t.isPrefixOf (s.data.toList.drop i)
theorem preAt_le {s : ByteArray} {i : Nat} {t : List UInt8} (h : preAt s i t = true) (hi : i ≤ s.size) : i + t.length ≤ s.size := by
  unfold preAt at h
  have := (List.isPrefixOf_iff_prefix.1 h).length_le
  rw [List.length_drop] at this
  have e : s.data.toList.length = s.size := rfl
  omega

/-- the place behind the identifier at a place; the place itself, if there is none -/
def identE (s : ByteArray) (i : Nat) : Nat := if i < s.size then (if letterB (bt s i) then whileE identB s i else i) else i
theorem identE_ge (s : ByteArray) (i : Nat) : i ≤ identE s i := by
  unfold identE; split
  · split
    · exact whileE_ge _ _ _
    · omega
  · omega
theorem identE_le (s : ByteArray) (i : Nat) (h : i ≤ s.size) : identE s i ≤ s.size := by
  unfold identE; split
  · split
    · exact whileE_le _ _ _ h
    · omega
  · omega
def runE (s : ByteArray) (i : Nat) : Nat := whileE signB s i
/-- the place behind the named symbol at a place -/
def namedE (s : ByteArray) (i : Nat) : Nat :=
  if preAt s i [92, 60] then
    (if identE s (i + 2) = i + 2 ∨ identE s (i + 2) = s.size ∨ bt s (identE s (i + 2)) ≠ 62 then i else identE s (i + 2) + 1)
  else i
theorem namedE_ge (s : ByteArray) (i : Nat) : i ≤ namedE s i := by
  unfold namedE
  split
  · split
    · omega
    · have := identE_ge s (i + 2); omega
  · omega
theorem namedE_le (s : ByteArray) (i : Nat) (h : i ≤ s.size) : namedE s i ≤ s.size := by
  unfold namedE
  split
  · rename_i hp
    have := preAt_le hp h
    simp at this
    split
    · omega
    · rename_i hn
      have := identE_le s (i + 2) (by omega)
      have : identE s (i + 2) ≠ s.size := fun e => hn (.inr (.inl e))
      omega
  · omega

/-- one step through what nests: its bytes, and what it adds to the depth -/
def stepW (s : ByteArray) (b e : List UInt8) (i : Nat) : Nat := if preAt s i b then b.length else if preAt s i e then e.length else 1
def stepD (s : ByteArray) (b e : List UInt8) (i : Nat) : Int := if preAt s i b then 1 else if preAt s i e then -1 else 0
def nestF (s : ByteArray) (b e : List UInt8) : Nat → Nat → Int → Option Nat
  | 0, _, _ => none
  | d + 1, i, deep => if i < s.size then (if deep + stepD s b e i = 0 then some (i + stepW s b e i) else nestF s b e d (i + stepW s b e i) (deep + stepD s b e i)) else none
/-- the place behind what begins at a place, and nests -/
def nestE (s : ByteArray) (b e : List UInt8) (i : Nat) (deep : Int) : Option Nat := nestF s b e (s.size - i + 1) i deep

theorem stepW_pos (s : ByteArray) (b e : List UInt8) (i : Nat) (hb : 0 < b.length) (he : 0 < e.length) : 0 < stepW s b e i := by
  unfold stepW; split
  · exact hb
  · split
    · exact he
    · omega
theorem stepW_le (s : ByteArray) (b e : List UInt8) (i : Nat) (hi : i < s.size) : i + stepW s b e i ≤ s.size := by
  unfold stepW; split
  · rename_i h; exact preAt_le h (by omega)
  · split
    · rename_i h; exact preAt_le h (by omega)
    · omega
theorem stepD_range (s : ByteArray) (b e : List UInt8) (i : Nat) : -1 ≤ stepD s b e i ∧ stepD s b e i ≤ 1 := by
  unfold stepD; split
  · omega
  · split <;> omega
theorem nestF_more (s : ByteArray) (b e : List UInt8) (hb : 0 < b.length) (he : 0 < e.length) : ∀ d i deep, s.size - i + 1 ≤ d → nestF s b e d i deep = nestF s b e (s.size - i + 1) i deep := by
  intro d
  induction d using Nat.strongRecOn with
  | _ d ih =>
    intro i deep h
    obtain ⟨d', rfl⟩ : ∃ d', d = d' + 1 := ⟨d - 1, by omega⟩
    unfold nestF
    by_cases hi : i < s.size
    · rw [if_pos hi, if_pos hi]
      have hw := stepW_pos s b e i hb he
      have hl := stepW_le s b e i hi
      split
      · rfl
      · rw [ih d' (by omega) _ _ (by omega)]
        by_cases h' : s.size - i < d' + 1
        · rw [ih (s.size - i) (by omega) _ _ (by omega)]
        · omega
    · rw [if_neg hi, if_neg hi]
theorem nestE_end (s : ByteArray) (b e : List UInt8) (i : Nat) (deep : Int) (h : s.size ≤ i) : nestE s b e i deep = none := by
  unfold nestE nestF; rw [if_neg (by omega)]
theorem nestE_stop (s : ByteArray) (b e : List UInt8) (i : Nat) (deep : Int) (h : i < s.size) (hd : deep + stepD s b e i = 0) : nestE s b e i deep = some (i + stepW s b e i) := by
  unfold nestE nestF; rw [if_pos h, if_pos hd]
theorem nestE_step (s : ByteArray) (b e : List UInt8) (hb : 0 < b.length) (he : 0 < e.length) (i : Nat) (deep : Int) (h : i < s.size) (hd : deep + stepD s b e i ≠ 0) :
    nestE s b e i deep = nestE s b e (i + stepW s b e i) (deep + stepD s b e i) := by
  have hw := stepW_pos s b e i hb he
  have e1 : nestE s b e i deep = nestF s b e (s.size - i) (i + stepW s b e i) (deep + stepD s b e i) := by
    unfold nestE; rw [nestF, if_pos h, if_neg hd]
  rw [e1, nestF_more s b e hb he _ _ _ (by omega)]; rfl
theorem nestF_le (s : ByteArray) (b e : List UInt8) : ∀ d i deep r, i ≤ s.size → nestF s b e d i deep = some r → i ≤ r ∧ r ≤ s.size := by
  intro d
  induction d with
  | zero => intro i deep r _ h; simp [nestF] at h
  | succ d ih =>
    intro i deep r hi h
    unfold nestF at h
    split at h
    · rename_i hlt
      have hl := stepW_le s b e i hlt
      split at h
      · cases h; omega
      · have := ih _ _ _ hl h; omega
    · cases h
theorem nestE_le {s : ByteArray} {b e : List UInt8} {i : Nat} {deep : Int} {r : Nat} (hi : i ≤ s.size) (h : nestE s b e i deep = some r) : i ≤ r ∧ r ≤ s.size := nestF_le s b e _ i deep r hi h
theorem nestF_lt (s : ByteArray) (b e : List UInt8) (hb : 0 < b.length) (he : 0 < e.length) : ∀ d i deep r, i ≤ s.size → nestF s b e d i deep = some r → i < r := by
  intro d i deep r hi h
  cases d with
  | zero => simp [nestF] at h
  | succ d =>
    unfold nestF at h
    split at h
    · rename_i hlt
      have hl := stepW_le s b e i hlt
      have hp := stepW_pos s b e i hb he
      split at h
      · cases h; omega
      · have := nestF_le s b e _ _ _ _ hl h; omega
    · cases h
theorem nestE_lt {s : ByteArray} {b e : List UInt8} (hb : 0 < b.length) (he : 0 < e.length) {i : Nat} {deep : Int} {r : Nat} (hi : i ≤ s.size) (h : nestE s b e i deep = some r) : i < r := nestF_lt s b e hb he _ i deep r hi h

/-- the place behind blanks and comments; the place of a comment that has no end -/
def blanksF (s : ByteArray) : Nat → Nat → Except Nat Nat
  | 0, i => .ok i
  | d + 1, i => if preAt s (whileE blankB s i) [40, 42] then (match nestE s [40, 42] [42, 41] (whileE blankB s i) 0 with | none => .error (whileE blankB s i) | some e => blanksF s d e) else .ok (whileE blankB s i)
def blanksE (s : ByteArray) (i : Nat) : Except Nat Nat := blanksF s (s.size - i + 1) i
theorem blanksF_more (s : ByteArray) : ∀ d i, i ≤ s.size → s.size - i + 1 ≤ d → blanksF s d i = blanksF s (s.size - i + 1) i := by
  intro d
  induction d using Nat.strongRecOn with
  | _ d ih =>
    intro i hi h
    obtain ⟨d', rfl⟩ : ∃ d', d = d' + 1 := ⟨d - 1, by omega⟩
    unfold blanksF
    have h1 := whileE_ge blankB s i
    have h2 := whileE_le blankB s i hi
    split
    · split
      · rfl
      · rename_i e he
        have h3 := nestE_lt (by decide) (by decide) h2 he
        have h4 := nestE_le h2 he
        by_cases hd : d' = s.size - i
        · rw [hd]
        · rw [ih d' (by omega) e (by omega) (by omega), ih (s.size - i) (by omega) e (by omega) (by omega)]
    · rfl
theorem blanksE_none (s : ByteArray) (i : Nat) (h : preAt s (whileE blankB s i) [40, 42] = false) : blanksE s i = .ok (whileE blankB s i) := by
  unfold blanksE blanksF; rw [h]; rfl
theorem blanksE_err (s : ByteArray) (i : Nat) (h : preAt s (whileE blankB s i) [40, 42] = true) (hn : nestE s [40, 42] [42, 41] (whileE blankB s i) 0 = none) : blanksE s i = .error (whileE blankB s i) := by
  unfold blanksE blanksF; rw [h, if_pos rfl, hn]
theorem blanksE_step (s : ByteArray) (i : Nat) (hi : i ≤ s.size) (h : preAt s (whileE blankB s i) [40, 42] = true) {e : Nat} (hn : nestE s [40, 42] [42, 41] (whileE blankB s i) 0 = some e) : blanksE s i = blanksE s e := by
  have h1 := whileE_ge blankB s i
  have h2 := whileE_le blankB s i hi
  have h3 := nestE_lt (by decide) (by decide) h2 hn
  have h4 := nestE_le h2 hn
  have : blanksE s i = blanksF s (s.size - i) e := by unfold blanksE; rw [blanksF, h, if_pos rfl, hn]
  rw [this, blanksF_more s _ _ (by omega) (by omega)]; rfl
theorem blanksF_le (s : ByteArray) : ∀ d i, i ≤ s.size → (∀ r, blanksF s d i = .ok r → i ≤ r ∧ r ≤ s.size) ∧ (∀ r, blanksF s d i = .error r → i ≤ r ∧ r ≤ s.size) := by
  intro d
  induction d with
  | zero => intro i hi; exact ⟨fun r h => by simp [blanksF] at h; omega, fun r h => by simp [blanksF] at h⟩
  | succ d ih =>
    intro i hi
    have h1 := whileE_ge blankB s i
    have h2 := whileE_le blankB s i hi
    refine ⟨fun r h => ?_, fun r h => ?_⟩
    all_goals
      unfold blanksF at h
      split at h
      · split at h
        · cases h <;> omega
        · rename_i e he
          have h3 := nestE_lt (by decide) (by decide) h2 he
          have h4 := nestE_le h2 he
          first | (have := (ih e (by omega)).1 r h; omega) | (have := (ih e (by omega)).2 r h; omega)
      · cases h <;> omega
theorem blanksE_le {s : ByteArray} {i r : Nat} (hi : i ≤ s.size) (h : blanksE s i = .ok r) : i ≤ r ∧ r ≤ s.size := (blanksF_le s _ i hi).1 r h
theorem blanksE_le' {s : ByteArray} {i r : Nat} (hi : i ≤ s.size) (h : blanksE s i = .error r) : i ≤ r ∧ r ≤ s.size := (blanksF_le s _ i hi).2 r h

/-- the place behind a dot and digits -/
def indexE (s : ByteArray) (i : Nat) : Nat := if i < s.size then (if bt s i = 46 then (if i + 1 < whileE digitB s (i + 1) then whileE digitB s (i + 1) else i) else i) else i
/-- names: the kind, and the place behind -/
def wordF (s : ByteArray) : Nat → Int → Nat → Int × Nat
  | 0, k, e => (k, e)
  | d + 1, k, e => if e < s.size then (if bt s e = 46 then (if identE s (e + 1) = e + 1 then (k, e) else wordF s d 2 (identE s (e + 1))) else (k, e)) else (k, e)
def wordE (s : ByteArray) (k : Int) (e : Nat) : Int × Nat := wordF s (s.size - e) k e
def namesE (s : ByteArray) (i : Nat) : Int × Nat := if i < identE s i then wordE s 1 (identE s i) else (1, identE s i)
theorem wordE_end (s : ByteArray) (k : Int) (e : Nat) (h : s.size ≤ e) : wordE s k e = (k, e) := by
  unfold wordE; rw [show s.size - e = 0 by omega]; rfl
theorem wordE_dot (s : ByteArray) (k : Int) (e : Nat) (h : e < s.size) (hd : bt s e ≠ 46) : wordE s k e = (k, e) := by
  unfold wordE; obtain ⟨d, hd'⟩ : ∃ d, s.size - e = d + 1 := ⟨s.size - e - 1, by omega⟩
  rw [hd', wordF, if_pos h, if_neg hd]
theorem wordE_stop (s : ByteArray) (k : Int) (e : Nat) (h : e < s.size) (hi : identE s (e + 1) = e + 1) : wordE s k e = (k, e) := by
  unfold wordE; obtain ⟨d, hd'⟩ : ∃ d, s.size - e = d + 1 := ⟨s.size - e - 1, by omega⟩
  rw [hd', wordF, if_pos h, if_pos hi]; split <;> rfl
theorem wordF_more (s : ByteArray) : ∀ d k e, e ≤ s.size → s.size - e ≤ d → wordF s d k e = wordF s (s.size - e) k e := by
  intro d
  induction d using Nat.strongRecOn with
  | _ d ih =>
    intro k e he h
    by_cases hlt : e < s.size
    · obtain ⟨d', rfl⟩ : ∃ d', d = d' + 1 := ⟨d - 1, by omega⟩
      obtain ⟨m, hm⟩ : ∃ m, s.size - e = m + 1 := ⟨s.size - e - 1, by omega⟩
      rw [hm, wordF, wordF, if_pos hlt, if_pos hlt]
      have h1 := identE_ge s (e + 1)
      have h2 := identE_le s (e + 1) (by omega)
      split
      · split
        · rfl
        · by_cases hd : d' = m
          · rw [hd]
          · rw [ih d' (by omega) _ _ h2 (by omega), ih m (by omega) _ _ h2 (by omega)]
      · rfl
    · rw [show s.size - e = 0 by omega]
      cases d with
      | zero => rfl
      | succ d => unfold wordF; rw [if_neg hlt]
theorem wordE_step (s : ByteArray) (k : Int) (e : Nat) (h : e < s.size) (hd : bt s e = 46) (hi : identE s (e + 1) ≠ e + 1) : wordE s k e = wordE s 2 (identE s (e + 1)) := by
  have h1 := identE_ge s (e + 1)
  have h2 := identE_le s (e + 1) (by omega)
  have e1 : wordE s k e = wordF s (s.size - e - 1) 2 (identE s (e + 1)) := by
    unfold wordE; obtain ⟨d, hd'⟩ : ∃ d, s.size - e = d + 1 := ⟨s.size - e - 1, by omega⟩
    rw [hd', wordF, if_pos h, if_pos hd, if_neg hi]; rfl
  rw [e1, wordF_more s _ _ _ h2 (by omega)]; rfl
theorem wordF_le (s : ByteArray) : ∀ d k e, e ≤ s.size → e ≤ (wordF s d k e).2 ∧ (wordF s d k e).2 ≤ s.size := by
  intro d
  induction d with
  | zero => intro k e he; exact ⟨Nat.le_refl _, he⟩
  | succ d ih =>
    intro k e he
    unfold wordF
    split
    · split
      · split
        · exact ⟨Nat.le_refl _, he⟩
        · have h1 := identE_ge s (e + 1)
          have h2 := identE_le s (e + 1) (by omega)
          have := ih 2 _ h2
          omega
      · exact ⟨Nat.le_refl _, he⟩
    · exact ⟨Nat.le_refl _, he⟩
theorem namesE_le (s : ByteArray) (i : Nat) (hi : i ≤ s.size) : i ≤ (namesE s i).2 ∧ (namesE s i).2 ≤ s.size := by
  have h1 := identE_ge s i
  have h2 := identE_le s i hi
  unfold namesE wordE
  split
  · have := wordF_le s (s.size - identE s i) 1 _ h2; omega
  · omega
theorem indexE_le (s : ByteArray) (i : Nat) (hi : i ≤ s.size) : i ≤ indexE s i ∧ indexE s i ≤ s.size := by
  unfold indexE
  split
  · have := whileE_le digitB s (i + 1) (by omega)
    split
    · split <;> omega
    · omega
  · omega
/-- what a mark stands ahead of -/
def markE (s : ByteArray) (i : Nat) (m : List UInt8) : Option Nat := if preAt s i m then (if i + m.length < identE s (i + m.length) then some (identE s (i + m.length)) else none) else none
def varsE (s : ByteArray) (i : Nat) : Int × Nat :=
  match markE s i [39] with
  | some e => (3, e)
  | none => match markE s i [63, 39] with
    | some e => (5, indexE s e)
    | none => match markE s i [63] with
      | some e => (4, indexE s e)
      | none => (0, i)
def markV (s : ByteArray) (i : Nat) (m : List UInt8) : Nat × Bool := if preAt s i m then (identE s (i + m.length), decide (i + m.length < identE s (i + m.length))) else (0, false)
theorem markV_some {s : ByteArray} {i : Nat} {m : List UInt8} {e : Nat} (h : markE s i m = some e) : markV s i m = (e, true) := by
  unfold markE at h; unfold markV
  split at h
  · rename_i hp
    split at h
    · rename_i hlt; cases h; rw [if_pos hp]; simp [hlt]
    · cases h
  · cases h
theorem markV_none {s : ByteArray} {i : Nat} {m : List UInt8} (h : markE s i m = none) : ∃ e, markV s i m = (e, false) := by
  unfold markE at h; unfold markV
  split at h
  · rename_i hp
    split at h
    · cases h
    · rename_i hlt; rw [if_pos hp]; exact ⟨identE s (i + m.length), by simp [hlt]⟩
  · rename_i hp; rw [if_neg hp]; exact ⟨0, rfl⟩
theorem markE_le {s : ByteArray} {i : Nat} {m : List UInt8} {e : Nat} (hi : i ≤ s.size) (h : markE s i m = some e) : i ≤ e ∧ e ≤ s.size := by
  unfold markE at h
  split at h
  · rename_i hp
    have := preAt_le hp hi
    split at h
    · cases h
      have := identE_ge s (i + m.length)
      have := identE_le s (i + m.length) (by omega)
      omega
    · cases h
  · cases h
theorem varsE_le (s : ByteArray) (i : Nat) (hi : i ≤ s.size) : i ≤ (varsE s i).2 ∧ (varsE s i).2 ≤ s.size := by
  unfold varsE
  split
  · rename_i e h; exact markE_le hi h
  · split
    · rename_i e h; have := markE_le hi h; have := indexE_le s e (by omega); simp only; omega
    · split
      · rename_i e h; have := markE_le hi h; have := indexE_le s e (by omega); simp only; omega
      · simp only; omega
def symE (s : ByteArray) (i : Nat) : Nat := if max (namedE s i) (runE s i) = i then (if pointB (bt s i) then i + 1 else i) else max (namedE s i) (runE s i)

/-- the string that begins at a place (its text so far), and the place behind it; none: it does not end -/
def textF (s : ByteArray) : Nat → Nat → List UInt8 → Option (List UInt8 × Nat)
  | 0, _, _ => none
  | d + 1, i, out =>
    if i < s.size then
      (if bt s i = 10 then none
       else if bt s i = 34 then some (out, i + 1)
       else if bt s i = 92 then
         (if i + 1 < s.size then
            (if bt s ((i + 1 : Nat) : Int) = 110 then textF s d (i + 2) (out ++ [10])
             else if bt s ((i + 1 : Nat) : Int) = 34 ∨ bt s ((i + 1 : Nat) : Int) = 92 then textF s d (i + 2) (out ++ [(bt s ((i + 1 : Nat) : Int)).toNat.toUInt8])
             else none)
          else none)
       else textF s d (i + 1) (out ++ [(bt s i).toNat.toUInt8]))
    else none
def textE (s : ByteArray) (i : Nat) (out : List UInt8) : Option (List UInt8 × Nat) := textF s (s.size - i) i out
theorem textE_end (s : ByteArray) (i : Nat) (out : List UInt8) (h : s.size ≤ i) : textE s i out = none := by
  unfold textE; rw [show s.size - i = 0 by omega]; rfl
theorem textF_more (s : ByteArray) : ∀ d i out, s.size - i ≤ d → textF s d i out = textF s (s.size - i) i out := by
  intro d
  induction d using Nat.strongRecOn with
  | _ d ih =>
    intro i out h
    by_cases hlt : i < s.size
    · obtain ⟨d', rfl⟩ : ∃ d', d = d' + 1 := ⟨d - 1, by omega⟩
      obtain ⟨m, hm⟩ : ∃ m, s.size - i = m + 1 := ⟨s.size - i - 1, by omega⟩
      by_cases hd : d' = m
      · rw [hd, hm]
      · rw [hm]
        unfold textF
        rw [ih d' (by omega) (i + 2) _ (by omega), ih d' (by omega) (i + 2) _ (by omega), ih d' (by omega) (i + 1) _ (by omega), ih m (by omega) (i + 2) _ (by omega), ih m (by omega) (i + 2) _ (by omega), ih m (by omega) (i + 1) _ (by omega)]
    · rw [show s.size - i = 0 by omega]
      cases d with
      | zero => rfl
      | succ d => unfold textF; rw [if_neg hlt]
theorem textE_eq (s : ByteArray) (i : Nat) (out : List UInt8) (hlt : i < s.size) : textE s i out =
      (if bt s i = 10 then none
       else if bt s i = 34 then some (out, i + 1)
       else if bt s i = 92 then
         (if i + 1 < s.size then
            (if bt s ((i + 1 : Nat) : Int) = 110 then textE s (i + 2) (out ++ [10])
             else if bt s ((i + 1 : Nat) : Int) = 34 ∨ bt s ((i + 1 : Nat) : Int) = 92 then textE s (i + 2) (out ++ [(bt s ((i + 1 : Nat) : Int)).toNat.toUInt8])
             else none)
          else none)
       else textE s (i + 1) (out ++ [(bt s i).toNat.toUInt8])) := by
  obtain ⟨m, hm⟩ : ∃ m, s.size - i = m + 1 := ⟨s.size - i - 1, by omega⟩
  have e : textE s i out = textF s (m + 1) i out := by unfold textE; rw [hm]
  rw [e, textF, if_pos hlt]
  unfold textE
  rw [textF_more s m (i + 2) _ (by omega), textF_more s m (i + 2) _ (by omega), textF_more s m (i + 1) _ (by omega)]
end Go.Proofs.YtmkfeanggmjhmaaGreat.M
namespace Go.Proofs.YtmkfeanggmjhmaaGreat.M
set_option linter.unusedSimpArgs false
set_option linter.unusedVariables false
open Go Go.RowKit Go.Proofs.YtmkfeanggmjhmaaGreatW.PrintWords

theorem nestF_pos (s : ByteArray) (b e : List UInt8) : ∀ d i deep r, 1 ≤ deep → i ≤ s.size → nestF s b e d i deep = some r → i + e.length ≤ r := by
  intro d
  induction d with
  | zero => intro i deep r _ _ h; simp [nestF] at h
  | succ d ih =>
    intro i deep r h1 hi h
    unfold nestF at h
    split at h
    · rename_i hlt
      have hl := stepW_le s b e i hlt
      split at h
      · rename_i hz
        cases h
        unfold stepD at hz
        unfold stepW
        split at hz
        · omega
        · rename_i hb
          rw [if_neg hb]
          split at hz
          · rename_i he; rw [if_pos he]; exact Nat.le_refl _
          · omega
      · rename_i hz
        have hd := stepD_range s b e i
        have := ih _ _ _ (by omega) hl h
        omega
    · cases h
theorem nestE_both {s : ByteArray} {b e : List UInt8} {i r : Nat} (hi : i ≤ s.size) (hp : preAt s i b = true) (h : nestE s b e i 0 = some r) : i + b.length + e.length ≤ r := by
  unfold nestE nestF at h
  have hd : stepD s b e i = 1 := by unfold stepD; rw [if_pos hp]
  have hw : stepW s b e i = b.length := by unfold stepW; rw [if_pos hp]
  rw [hd, hw] at h
  split at h
  · rename_i hlt
    have := preAt_le hp hi
    rw [if_neg (by decide)] at h
    exact nestF_pos s b e _ _ _ _ (by decide) this h
  · cases h

def opened : List UInt8 := [92, 60, 111, 112, 101, 110, 62]
def closed : List UInt8 := [92, 60, 99, 108, 111, 115, 101, 62]
def readE (s : ByteArray) (i : Nat) : Nat → Int × Nat
  | 0 => namesE s i
  | 1 => varsE s i
  | 2 => (6, whileE digitB s i)
  | _ => (7, symE s i)
def bestE (s : ByteArray) (i : Nat) : Nat → Int × Nat
  | 0 => (0, i)
  | j + 1 => if (bestE s i j).2 < (readE s i j).2 then readE s i j else bestE s i j
theorem symE_le (s : ByteArray) (i : Nat) (hi : i < s.size) : i ≤ symE s i ∧ symE s i ≤ s.size := by
  have h1 := namedE_ge s i
  have h2 := namedE_le s i (by omega)
  have h3 := whileE_ge signB s i
  have h4 := whileE_le signB s i (by omega)
  unfold symE runE
  split
  · split <;> omega
  · omega
theorem readE_le (s : ByteArray) (i : Nat) (hi : i < s.size) (j : Nat) : i ≤ (readE s i j).2 ∧ (readE s i j).2 ≤ s.size := by
  unfold readE
  split
  · exact namesE_le s i (by omega)
  · exact varsE_le s i (by omega)
  · exact ⟨whileE_ge _ _ _, whileE_le _ _ _ (by omega)⟩
  · exact symE_le s i hi
theorem bestE_le (s : ByteArray) (i : Nat) (hi : i < s.size) : ∀ j, i ≤ (bestE s i j).2 ∧ (bestE s i j).2 ≤ s.size
  | 0 => ⟨Nat.le_refl _, by simp only [bestE]; omega⟩
  | j + 1 => by
    unfold bestE
    split
    · exact readE_le s i hi j
    · exact bestE_le s i hi j
/-- the token at a place, and the place behind it; or the code of the error -/
def oneE (kw : List UInt8 → Bool) (s : ByteArray) (i : Nat) : Except Int ((Int × ByteArray) × Nat) :=
  if bt s i = 34 then (match textE s (i + 1) [] with | some (l, j) => .ok ((8, ⟨l.toArray⟩), j) | none => .error 161)
  else if preAt s i opened then (match nestE s opened closed i 0 with | some e => .ok ((9, s.extract (i + 7) (e - 8)), e) | none => .error 161)
  else if (bestE s i 4).2 = i ∨ (s.extract i (bestE s i 4).2).data.toList = closed then .error 160
  else .ok ((if ((bestE s i 4).1 = 1 ∨ (bestE s i 4).1 = 7) ∧ kw (s.extract i (bestE s i 4).2).data.toList = true then 10 else (bestE s i 4).1, s.extract i (bestE s i 4).2), (bestE s i 4).2)
theorem oneE_text {kw : List UInt8 → Bool} {s : ByteArray} {i : Nat} (h : bt s i = 34) : oneE kw s i = (match textE s (i + 1) [] with | some (l, j) => .ok ((8, ⟨l.toArray⟩), j) | none => .error 161) := by
  unfold oneE; rw [if_pos h]
theorem oneE_quote {kw : List UInt8 → Bool} {s : ByteArray} {i : Nat} (h : bt s i ≠ 34) (hp : preAt s i opened = true) : oneE kw s i = (match nestE s opened closed i 0 with | some e => .ok ((9, s.extract (i + 7) (e - 8)), e) | none => .error 161) := by
  unfold oneE; rw [if_neg h, if_pos hp]
theorem oneE_none {kw : List UInt8 → Bool} {s : ByteArray} {i : Nat} (h : bt s i ≠ 34) (hp : preAt s i opened = false) {k : Int} {e : Nat} (hb : bestE s i 4 = (k, e)) (hn : e = i ∨ (s.extract i e).data.toList = closed) : oneE kw s i = .error 160 := by
  unfold oneE; rw [if_neg h, if_neg (by rw [hp]; decide), hb, if_pos hn]
theorem oneE_some {kw : List UInt8 → Bool} {s : ByteArray} {i : Nat} (h : bt s i ≠ 34) (hp : preAt s i opened = false) {k : Int} {e : Nat} (hb : bestE s i 4 = (k, e)) (hn : e ≠ i) (hc : (s.extract i e).data.toList ≠ closed) :
    oneE kw s i = .ok ((if (k = 1 ∨ k = 7) ∧ kw (s.extract i e).data.toList = true then 10 else k, s.extract i e), e) := by
  unfold oneE; rw [if_neg h, if_neg (by rw [hp]; decide), hb, if_neg (fun h => h.elim hn hc)]

/-- is a text a keyword? -/
def kwB (s : ByteArray) : Bool :=
  !(decide (s.size = 0) || decide (40 < s.size) || decide (s.data.toList = opened) || decide (s.data.toList = closed)) &&
    (decide (identE s 0 = s.size) || decide (runE s 0 = s.size) || decide (namedE s 0 = s.size) || (decide (s.size = 1) && pointB (bt s 0)))
/-- the error of keywords, those of which have been met -/
def checkL : List ByteArray → List ByteArray → Int
  | _, [] => 0
  | met, s :: r => if kwB s then (if met.any (fun t => s.data.toList == t.data.toList) then 10 else checkL (met ++ [s]) r) else 163
def checkE (l : List ByteArray) : Int := if 500 < l.length then 5 else checkL [] l
end Go.Proofs.YtmkfeanggmjhmaaGreat.M
namespace Go.Proofs.YtmkfeanggmjhmaaGreat.M
set_option linter.unusedSimpArgs false
set_option linter.unusedVariables false
open Go Go.RowKit Go.Proofs.YtmkfeanggmjhmaaGreatW.PrintWords

/-- a token: its kind, its text, its place -/
structure Tok where
  kind : Int
  text : ByteArray
  at_ : Nat

theorem textF_lt (s : ByteArray) : ∀ d i out r, textF s d i out = some r → i < r.2 ∧ r.2 ≤ s.size := by
  intro d
  induction d with
  | zero => intro i out r h; simp [textF] at h
  | succ d ih =>
    intro i out r h
    unfold textF at h
    split at h
    · rename_i hlt
      split at h
      · cases h
      · split at h
        · cases h; exact ⟨Nat.lt_succ_self _, hlt⟩
        · split at h
          · split at h
            · split at h
              · have := ih _ _ _ h; omega
              · split at h
                · have := ih _ _ _ h; omega
                · cases h
            · cases h
          · have := ih _ _ _ h; omega
    · cases h
theorem textE_lt {s : ByteArray} {i : Nat} {out : List UInt8} {r : List UInt8 × Nat} (h : textE s i out = some r) : i < r.2 ∧ r.2 ≤ s.size := textF_lt s _ i out r h
theorem oneE_lt {kw : List UInt8 → Bool} {s : ByteArray} {i : Nat} (hi : i < s.size) {r : (Int × ByteArray) × Nat} (h : oneE kw s i = .ok r) : i < r.2 ∧ r.2 ≤ s.size := by
  unfold oneE at h
  split at h
  · split at h
    · rename_i l j hj
      cases h
      have := textE_lt hj
      simp only at this ⊢
      omega
    · cases h
  · split at h
    · rename_i hp
      split at h
      · rename_i e he
        cases h
        have h1 := nestE_le (by omega) he
        have h2 := nestE_lt (by decide) (by decide) (by omega) he
        simp only
        omega
      · cases h
    · split at h
      · cases h
      · rename_i hn
        have hb := bestE_le s i hi 4
        cases h
        simp only
        have : (bestE s i 4).2 ≠ i := fun e => hn (.inl e)
        omega

/-- the tokens from a place on that begins none but a token, behind others; and the error, if there is one: its place, its code -/
def scanF (kw : List UInt8 → Bool) (s : ByteArray) : Nat → Nat → List Tok → List Tok × Option (Nat × Int)
  | 0, _, pre => (pre, none)
  | d + 1, i, pre =>
    if i < s.size then
      (match oneE kw s i with
       | .error c => (pre, some (i, c))
       | .ok ((k, t), e) => match blanksE s e with
         | .error p => (pre ++ [⟨k, t, i⟩], some (p, 162))
         | .ok j => scanF kw s d j (pre ++ [⟨k, t, i⟩]))
    else (pre, none)
def scanFrom (kw : List UInt8 → Bool) (s : ByteArray) (i : Nat) (pre : List Tok) : List Tok × Option (Nat × Int) := scanF kw s (s.size - i + 1) i pre
def scanE (kw : List UInt8 → Bool) (s : ByteArray) : List Tok × Option (Nat × Int) :=
  match blanksE s 0 with
  | .error p => ([], some (p, 162))
  | .ok j => scanFrom kw s j []
theorem scanF_more (kw : List UInt8 → Bool) (s : ByteArray) : ∀ d i pre, s.size - i + 1 ≤ d → scanF kw s d i pre = scanF kw s (s.size - i + 1) i pre := by
  intro d
  induction d using Nat.strongRecOn with
  | _ d ih =>
    intro i pre h
    obtain ⟨d', rfl⟩ : ∃ d', d = d' + 1 := ⟨d - 1, by omega⟩
    unfold scanF
    split
    · rename_i hlt
      split
      · rfl
      · rename_i k t e ho
        have h1 := oneE_lt hlt ho
        simp only at h1
        split
        · rfl
        · rename_i j hb
          have h2 := blanksE_le h1.2 hb
          by_cases hd : d' = s.size - i
          · rw [hd]
          · rw [ih d' (by omega) j _ (by omega), ih (s.size - i) (by omega) j _ (by omega)]
    · rfl
theorem scanFrom_end (kw : List UInt8 → Bool) (s : ByteArray) (i : Nat) (pre : List Tok) (h : s.size ≤ i) : scanFrom kw s i pre = (pre, none) := by
  unfold scanFrom scanF; rw [if_neg (by omega)]
theorem scanFrom_eq (kw : List UInt8 → Bool) (s : ByteArray) (i : Nat) (pre : List Tok) (h : i < s.size) : scanFrom kw s i pre =
      (match oneE kw s i with
       | .error c => (pre, some (i, c))
       | .ok ((k, t), e) => match blanksE s e with
         | .error p => (pre ++ [⟨k, t, i⟩], some (p, 162))
         | .ok j => scanFrom kw s j (pre ++ [⟨k, t, i⟩])) := by
  have e0 : scanFrom kw s i pre = scanF kw s (s.size - i + 1) i pre := rfl
  rw [e0, scanF, if_pos h]
  split
  · rfl
  · rename_i k t e ho
    have h1 := oneE_lt h ho
    simp only at h1
    split
    · rfl
    · rename_i j hb
      have h2 := blanksE_le h1.2 hb
      rw [scanF_more kw s _ _ _ (by omega)]; rfl
end Go.Proofs.YtmkfeanggmjhmaaGreat.M
