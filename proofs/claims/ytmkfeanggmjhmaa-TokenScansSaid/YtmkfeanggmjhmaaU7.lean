/- The printed reference of tokens is the plain scanner: one token, all tokens. -/
import Derived.Test.YtmkfeanggmjhmaaU5
namespace Go.Proofs.Ytmkfeanggmjhmaa.L
set_option linter.unusedSimpArgs false
set_option linter.unusedVariables false
open Go Go.RowKit Go.Proofs.YtmkfeanggmjhmaaW.PrintWords Go.Proofs.YtmkfeanggmjhmaaW.PrintLast Go.Proofs.YtmkfeanggmjhmaaW.PrintMore
open Go.Proofs.Ytmkfeanggmjhmaa.M Go.Proofs.Ytmkfeanggmjhmaa.E Go.Proofs.Ytmkfeanggmjhmaa.PTokenScans

/-- the keywords as a set -/
def kwL (l : List ByteArray) (t : List UInt8) : Bool := l.any (fun x => t == x.data.toList)
theorem ext_pre {s : ByteArray} {i e : Nat} (hie : i ≤ e) (he : e ≤ s.size) {x : ByteArray} (h : (s.extract i e).data.toList = x.data.toList) : preAt s i x.data.toList = true ∧ i + x.size = e := by
  have e1 : (s.extract i e).data.toList = (s.data.toList.drop i).take (e - i) := by
    rw [ByteArray.data_extract, Array.toList_extract, List.extract_eq_take_drop]
  rw [e1] at h
  have hl : x.size = e - i := by
    have := congrArg List.length h
    rw [List.length_take, List.length_drop] at this
    have a : s.data.toList.length = s.size := rfl
    have b : x.data.toList.length = x.size := rfl
    omega
  refine ⟨?_, by omega⟩
  unfold preAt
  rw [← h]
  exact List.isPrefixOf_iff_prefix.2 (List.take_prefix _ _)
theorem pre_ext {s : ByteArray} {i e : Nat} (he : e ≤ s.size) {x : ByteArray} (hp : preAt s i x.data.toList = true) (h : i + x.size = e) : (s.extract i e).data.toList = x.data.toList := by
  have e1 : (s.extract i e).data.toList = (s.data.toList.drop i).take (e - i) := by
    rw [ByteArray.data_extract, Array.toList_extract, List.extract_eq_take_drop]
  rw [e1]
  obtain ⟨r, hr⟩ := pre_drop hp
  rw [hr]
  have b : x.data.toList.length = x.size := rfl
  rw [List.take_append_of_le_length (by omega), List.take_of_length_le (by omega)]

def oneP (i : Nat) : Except Int ((Int × ByteArray) × Nat) → Int × ByteArray × Int × Int × Int
  | .ok ((k, t), e) => (k, t, i, e, 0)
  | .error c => (0, ⟨#[]⟩, 0, i, c)

def kw10 (l : List ByteArray) (s : ByteArray) (i : Nat) (r : Int × Nat) : Int := if (r.1 = 1 ∨ r.1 = 7) ∧ kwL l (s.extract i r.2).data.toList = true then 10 else r.1
def endP (s : ByteArray) (i : Nat) (k : Int) (e : Nat) : Int × ByteArray × Int × Int × Int :=
  if e = i then (0, ⟨#[]⟩, 0, i, 160) else if (s.extract i e).data.toList = closed then (0, ⟨#[]⟩, 0, i, 160) else (k, s.extract i e, i, e, 0)

theorem kw_step (s : ByteArray) (i : Nat) (hi : i < s.size) (r : Int × Nat) (hg : Good s i r) (hie : i ≤ r.2) (hes : r.2 ≤ s.size) (a : List ByteArray) (x : ByteArray) :
    kw10 (a ++ [x]) s i r = if (r.1 = 1 ∨ r.1 = 7) ∧ (s.extract i r.2).data.toList = x.data.toList then 10 else kw10 a s i r := by
  unfold kw10 kwL
  rw [List.any_append]
  simp only [List.any_cons, List.any_nil, Bool.or_false, Bool.or_eq_true, beq_iff_eq]
  by_cases h1 : r.1 = 1 ∨ r.1 = 7
  · by_cases h2 : (s.extract i r.2).data.toList = x.data.toList
    · simp only [h1, h2, or_true, and_self, if_true]
    · simp only [h1, h2, or_false, true_and, if_false]
  · simp only [h1, false_and, if_false]

def s49 (x : Tok) : S49 := ⟨x.kind, x.text, x.at_⟩
def s36 (x : Tok) : S36 := ⟨x.kind, x.text, x.at_⟩
def scP : List Tok × Option (Nat × Int) → List S49 × Int × Int
  | (xs, none) => (xs.map s49, 0, 0)
  | (_, some (q, c)) => ([], q, c)
theorem codes_blank : ∀ p : Except Nat Nat, (blP p).2 = 0 ↔ ∃ j, p = .ok j := by
  intro p
  cases p with
  | ok j => exact ⟨fun _ => ⟨j, rfl⟩, fun _ => rfl⟩
  | error q => exact ⟨fun h => absurd h (show (162 : Int) ≠ 0 by decide), fun ⟨j, h⟩ => by cases h⟩

theorem oneE_code {kw : List UInt8 → Bool} {s : ByteArray} {i : Nat} {c : Int} (h : oneE kw s i = .error c) : c ≠ 0 := by
  unfold oneE at h
  split at h
  · split at h
    · cases h
    · cases h; decide
  · split at h
    · split at h
      · cases h
      · cases h; decide
    · split at h
      · cases h; decide
      · cases h
theorem check_kw : ∀ (l met : List ByteArray), checkL met l = 0 → ∀ x ∈ l, kwB x = true := by
  intro l
  induction l with
  | nil => intro met _ x hx; cases hx
  | cons a r ih =>
    intro met h x hx
    unfold checkL at h
    by_cases ha : kwB a = true
    · rw [if_pos ha] at h
      split at h
      · exact absurd h (by decide)
      · rcases List.mem_cons.1 hx with rfl | hx
        · exact ha
        · exact ih _ h x hx
    · rw [if_neg ha] at h
      exact absurd h (by decide)
theorem checkE_kw {l : List ByteArray} (h : checkE l = 0) : l.length ≤ 500 ∧ ∀ x ∈ l, kwB x = true := by
  unfold checkE at h
  split at h
  · exact absurd h (by decide)
  · exact ⟨by omega, check_kw l [] h⟩

def scanRef (l : List ByteArray) (s : ByteArray) : List Tok × Nat × Int :=
  if checkE l ≠ 0 then ([], 0, checkE l) else if 40000 < s.size then ([], 0, 7) else
    match scanE (kwL l) s with
    | (xs, none) => (xs, 0, 0)
    | (_, some (q, c)) => ([], q, c)
theorem scanF_len (kw : List UInt8 → Bool) (s : ByteArray) : ∀ d i pre, i ≤ s.size → (scanF kw s d i pre).1.length ≤ pre.length + (s.size - i) := by
  intro d
  induction d with
  | zero => intro i pre hi; simp only [scanF]; omega
  | succ d ih =>
    intro i pre hi
    unfold scanF
    split
    · rename_i hlt
      split
      · simp only; omega
      · rename_i k t e ho
        have h1 := oneE_lt hlt ho
        simp only at h1
        split
        · simp only [List.length_append, List.length_cons, List.length_nil]; omega
        · rename_i j hb
          have h2 := blanksE_le h1.2 hb
          have := ih j (pre ++ [⟨k, t, i⟩]) h2.2
          simp only [List.length_append, List.length_cons, List.length_nil] at this
          omega
    · simp only; omega
theorem scanRef_len (l : List ByteArray) (s : ByteArray) : (scanRef l s).1.length ≤ s.size := by
  unfold scanRef
  split
  · simp
  · split
    · simp
    · have h : (scanE (kwL l) s).1.length ≤ s.size := by
        unfold scanE
        split
        · simp
        · rename_i j hb
          have h2 := blanksE_le (by omega) hb
          have := scanF_len (kwL l) s (s.size - j + 1) j [] h2.2
          unfold scanFrom
          simp only [List.length_nil] at this
          omega
      split
      · rename_i xs he
        rw [he] at h
        exact h
      · simp
end Go.Proofs.Ytmkfeanggmjhmaa.L
