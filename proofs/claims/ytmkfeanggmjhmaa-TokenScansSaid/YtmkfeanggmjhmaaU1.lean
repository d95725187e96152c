/- The printed reference of tokens is the plain scanner: names, signs, keywords. -/
import Derived.Test.YtmkfeanggmjhmaaPTokenScansx3
import Derived.Test.YtmkfeanggmjhmaaPTokenScansx4
import Derived.Test.YtmkfeanggmjhmaaM
import Derived.Test.YtmkfeanggmjhmaaE
import Derived.Lib.Strings
namespace Go.Proofs.Ytmkfeanggmjhmaa.L
set_option linter.unusedSimpArgs false
set_option linter.unusedVariables false
open Go Go.RowKit Go.Proofs.YtmkfeanggmjhmaaW.PrintWords Go.Proofs.YtmkfeanggmjhmaaW.PrintLast Go.Proofs.YtmkfeanggmjhmaaW.PrintMore
open Go.Proofs.Ytmkfeanggmjhmaa.M Go.Proofs.Ytmkfeanggmjhmaa.E Go.Proofs.Ytmkfeanggmjhmaa.PTokenScans

theorem letter_eq (c : Int) : triforiumref14_letter.f c = some (letterB c) := by
  unfold triforiumref14_letter.f letterB
  repeat' split
  all_goals
    first
    | (rw [decide_eq_true (by omega)]; done)
    | (by_cases h : c = 95
       · subst h; rfl
       · rw [decide_eq_false (by omega), beq_eq_false_iff_ne.2 h])
theorem digit_eq (c : Int) : triforiumref14_digit.f c = some (digitB c) := by
  unfold triforiumref14_digit.f digitB
  split
  · congr 1; simp; omega
  · rw [decide_eq_false (by omega)]

theorem bt_nat (s : ByteArray) (i : Nat) (h : i < s.size) : bt s i = ((s[i]'h).toNat : Int) := by unfold bt; simp [h]

theorem ident_loop (s : ByteArray) (i : Nat) (hs : s.size ≤ 1000000000000) : ∀ d j : Nat, s.size - j ≤ d → i < j → j ≤ 2000000000000 → Evt (fun k => triforiumref14_ident.l0 k s i j) (whileE identB s j : Int) := by
  intro d
  induction d with
  | zero =>
    intro j hd hij hj
    refine Evt.succ (fun k => rfl) ?_
    refine Evt.ff (by omega) ?_
    rw [whileE_end _ _ _ (by omega)]
    exact Evt.const _
  | succ d ih =>
    intro j hd hij hj
    by_cases hlt : j < s.size
    · refine Evt.succ (fun k => rfl) ?_
      refine Evt.tt (by omega) (Evt.tt (by omega) ?_)
      refine Evt.bind (Evt.of _ (letter_eq _)) ?_
      have hw : wrap64 ((j : Int) + 1) = ((j + 1 : Nat) : Int) := w64 (by omega) (by omega)
      by_cases h1 : letterB (bt s j) = true
      · refine Evt.tt h1 ?_
        rw [hw, whileE_hit identB s j hlt (by unfold identB; rw [h1]; rfl)]
        exact ih (j + 1) (by omega) (by omega) (by omega)
      · refine Evt.ff h1 (Evt.tt (by omega) ?_)
        refine Evt.bind (Evt.of _ (digit_eq _)) ?_
        by_cases h2 : digitB (bt s j) = true
        · refine Evt.tt h2 ?_
          rw [hw, whileE_hit identB s j hlt (by unfold identB; rw [h2]; simp)]
          exact ih (j + 1) (by omega) (by omega) (by omega)
        · refine Evt.ff h2 ?_
          by_cases h3 : bt s j = 39
          · refine Evt.tt h3 ?_
            rw [hw, whileE_hit identB s j hlt (by unfold identB; rw [h3]; rfl)]
            exact ih (j + 1) (by omega) (by omega) (by omega)
          · refine Evt.ff h3 ?_
            rw [whileE_miss identB s j hlt (by unfold identB; rw [Bool.eq_false_iff.2 h1, Bool.eq_false_iff.2 h2, decide_eq_false h3]; rfl)]
            exact Evt.const _
    · refine Evt.succ (fun k => rfl) ?_
      refine Evt.ff (by omega) ?_
      rw [whileE_end _ _ _ (by omega)]
      exact Evt.const _

theorem ident_ev (s : ByteArray) (i : Nat) (hs : s.size ≤ 1000000000000) (hi : i ≤ 1000000000000) : Evt (fun k => triforiumref14_ident.f k s i) (identE s i : Int) := by
  unfold triforiumref14_ident.f identE
  by_cases hlt : i < s.size
  · rw [if_pos hlt]
    refine Evt.succ (fun k => rfl) ?_
    refine Evt.tt (by omega) (Evt.tt (by omega) ?_)
    refine Evt.bind (Evt.of _ (letter_eq _)) ?_
    have hw : wrap64 ((i : Int) + 1) = ((i + 1 : Nat) : Int) := w64 (by omega) (by omega)
    by_cases h1 : letterB (bt s i) = true
    · refine Evt.tt h1 ?_
      rw [hw, if_pos h1, whileE_hit identB s i hlt (by unfold identB; rw [h1]; rfl)]
      exact ident_loop s i hs _ (i + 1) (Nat.le_refl _) (by omega) (by omega)
    · refine Evt.ff h1 (Evt.ff (by omega) ?_)
      rw [if_neg h1]
      exact Evt.const _
  · rw [if_neg hlt]
    refine Evt.succ (fun k => rfl) ?_
    exact Evt.ff (by omega) (Evt.const _)

def hasB (t : ByteArray) (c : Int) : Bool := t.data.toList.any (fun b => decide ((b.toNat : Int) = c))
theorem has_loop (t : ByteArray) (c : Int) (hs : t.size ≤ 1000000000000) : ∀ d j : Nat, t.size - j ≤ d → j ≤ 2000000000000 → Evt (fun k => triforiumref14_has.l0 k t c j) ((t.data.toList.drop j).any (fun b => decide ((b.toNat : Int) = c))) := by
  intro d
  induction d with
  | zero =>
    intro j hd hj
    refine Evt.succ (fun k => rfl) ?_
    refine Evt.ff (by omega) ?_
    rw [List.drop_eq_nil_of_le (by show t.size ≤ j; omega)]
    exact Evt.const _
  | succ d ih =>
    intro j hd hj
    by_cases hlt : j < t.size
    · refine Evt.succ (fun k => rfl) ?_
      refine Evt.tt (by omega) (Evt.tt (by omega) ?_)
      have hw : wrap64 ((j : Int) + 1) = ((j + 1 : Nat) : Int) := w64 (by omega) (by omega)
      have hl : j < t.data.toList.length := hlt
      have he : t.data.toList[j]'hl = t[j]'hlt := rfl
      rw [List.drop_eq_getElem_cons hl, List.any_cons, he, bt_nat t j hlt]
      by_cases h1 : ((t[j]'hlt).toNat : Int) = c
      · rw [decide_eq_true h1, Bool.true_or]
        exact Evt.tt h1 (Evt.const _)
      · rw [decide_eq_false h1, Bool.false_or]
        refine Evt.ff h1 ?_
        rw [hw]
        exact ih (j + 1) (by omega) (by omega)
    · refine Evt.succ (fun k => rfl) ?_
      refine Evt.ff (by omega) ?_
      rw [List.drop_eq_nil_of_le (by show t.size ≤ j; omega)]
      exact Evt.const _
theorem has_ev (t : ByteArray) (c : Int) (hs : t.size ≤ 1000000000000) : Evt (fun k => triforiumref14_has.f k t c) (hasB t c) := by
  have := has_loop t c hs _ 0 (Nat.le_refl _) (by omega)
  rw [List.drop_zero] at this
  exact this

def signT : ByteArray := ⟨#[33, 35, 36, 37, 38, 42, 43, 45, 47, 58, 60, 61, 62, 64, 94, 124, 126]⟩
def pointT : ByteArray := ⟨#[40, 41, 91, 93, 123, 125, 44, 59, 46]⟩
def digitT : ByteArray := ⟨#[48, 49, 50, 51, 52, 53, 54, 55, 56, 57]⟩
theorem has_list (l : List UInt8) (c : Int) (h0 : 0 ≤ c) (h1 : c ≤ 255) : l.contains c.toNat.toUInt8 = l.any (fun b => decide ((b.toNat : Int) = c)) := by
  induction l with
  | nil => rfl
  | cons b r ih =>
    rw [List.contains_cons, List.any_cons, ih]
    congr 1
    obtain ⟨n, rfl⟩ := Int.eq_ofNat_of_zero_le h0
    rw [Int.toNat_natCast]
    have hn : n < 256 := by omega
    by_cases h : (b.toNat : Int) = (n : Int)
    · rw [decide_eq_true h, beq_iff_eq]
      have : b.toNat = n := by omega
      subst this
      simp
    · rw [decide_eq_false h, beq_eq_false_iff_ne]
      intro e
      apply h
      rw [← e]
      simp
      omega
theorem sign_has (c : Int) (h0 : 0 ≤ c) (h1 : c ≤ 255) : signB c = hasB signT c := has_list _ _ h0 h1
theorem point_has (c : Int) (h0 : 0 ≤ c) (h1 : c ≤ 255) : pointB c = hasB pointT c := has_list _ _ h0 h1
theorem digit_has (c : Int) : digitB c = hasB digitT c := by
  unfold digitB hasB digitT
  simp only [List.any_cons, List.any_nil, Bool.or_false]
  rw [Bool.eq_iff_iff]
  simp only [Bool.or_eq_true, decide_eq_true_eq]
  constructor
  · intro h
    rcases (show c = 48 ∨ c = 49 ∨ c = 50 ∨ c = 51 ∨ c = 52 ∨ c = 53 ∨ c = 54 ∨ c = 55 ∨ c = 56 ∨ c = 57 by omega) with rfl | rfl | rfl | rfl | rfl | rfl | rfl | rfl | rfl | rfl <;> decide
  · rintro (h | h | h | h | h | h | h | h | h | h) <;> (rw [← h]; decide)

theorem skipW_congr (p q : Int → Bool) (s : ByteArray) (h : ∀ j : Nat, p (bt s j) = q (bt s j)) : ∀ d i, skipW p s d i = skipW q s d i := by
  intro d
  induction d with
  | zero => intro i; rfl
  | succ d ih => intro i; unfold skipW; rw [h, ih]
theorem whileE_congr (p q : Int → Bool) (s : ByteArray) (h : ∀ j : Nat, p (bt s j) = q (bt s j)) (i : Nat) : whileE p s i = whileE q s i := skipW_congr p q s h _ i

theorem run_loop (s t : ByteArray) (ht : t.size ≤ 1000000000000) (hs : s.size ≤ 1000000000000) : ∀ d j : Nat, s.size - j ≤ d → j ≤ 2000000000000 → Evt (fun k => triforiumref14_run.l0 k s j t) (whileE (hasB t) s j : Int) := by
  intro d
  induction d with
  | zero =>
    intro j hd hj
    refine Evt.succ (fun k => rfl) ?_
    refine Evt.ff (by omega) ?_
    rw [whileE_end _ _ _ (by omega)]
    exact Evt.const _
  | succ d ih =>
    intro j hd hj
    by_cases hlt : j < s.size
    · refine Evt.succ (fun k => rfl) ?_
      refine Evt.tt (by omega) (Evt.tt (by omega) ?_)
      refine Evt.bind (has_ev t _ ht) ?_
      have hw : wrap64 ((j : Int) + 1) = ((j + 1 : Nat) : Int) := w64 (by omega) (by omega)
      by_cases h1 : hasB t (bt s j) = true
      · refine Evt.tt h1 ?_
        rw [hw, whileE_hit _ s j hlt h1]
        exact ih (j + 1) (by omega) (by omega)
      · refine Evt.ff h1 ?_
        rw [whileE_miss _ s j hlt (Bool.eq_false_iff.2 h1)]
        exact Evt.const _
    · refine Evt.succ (fun k => rfl) ?_
      refine Evt.ff (by omega) ?_
      rw [whileE_end _ _ _ (by omega)]
      exact Evt.const _
theorem run_ev (s t : ByteArray) (ht : t.size ≤ 1000000000000) (hs : s.size ≤ 1000000000000) (j : Nat) (hj : j ≤ 2000000000000) : Evt (fun k => triforiumref14_run.f k s j t) (whileE (hasB t) s j : Int) :=
  run_loop s t ht hs _ j (Nat.le_refl _) hj
theorem signs_ev (s : ByteArray) (hs : s.size ≤ 1000000000000) (j : Nat) (hj : j ≤ 2000000000000) : Evt (fun k => triforiumref14_run.f k s j signT) (runE s j : Int) :=
  (run_ev s signT (by decide) hs j hj).eq (by rw [runE, whileE_congr signB (hasB signT) s (fun j => sign_has _ (bt_range s j).1 (bt_range s j).2)])
theorem digits_ev (s : ByteArray) (hs : s.size ≤ 1000000000000) (j : Nat) (hj : j ≤ 2000000000000) : Evt (fun k => triforiumref14_run.f k s j digitT) (whileE digitB s j : Int) :=
  (run_ev s digitT (by decide) hs j hj).eq (by rw [whileE_congr digitB (hasB digitT) s (fun j => digit_has _)])

theorem starts_eq (s : ByteArray) (hs : s.size ≤ 1000000000000) (i : Nat) (hi : i ≤ s.size) (t : ByteArray) (ht : t.size ≤ 1000000000000) : triforiumref14_starts.f s i t = some (preAt s i t.data.toList) := by
  unfold triforiumref14_starts.f
  have hw : wrap64 ((i : Int) + (t.size : Int)) = ((i + t.size : Nat) : Int) := w64 (by omega) (by omega)
  rw [hw]
  by_cases hle : i + t.size ≤ s.size
  · rw [if_pos (by omega), if_pos (by omega), if_pos (by omega), Int.toNat_natCast, Int.toNat_natCast]
    congr 1
    unfold preAt
    rw [Bool.eq_iff_iff, beq_iff_eq, List.isPrefixOf_iff_prefix, Lib.toList_data, Lib.toList_data]
    have e : (s.extract i (i + t.size)).data.toList = (s.data.toList.drop i).take t.size := by
      rw [ByteArray.data_extract, Array.toList_extract, List.extract_eq_take_drop]
      congr 1
      omega
    rw [e]
    constructor
    · intro h; rw [← h]; exact List.take_prefix _ _
    · intro h
      have := List.prefix_iff_eq_take.1 h
      rw [this]
      rfl
  · rw [if_neg (by omega)]
    congr 1
    symm
    rw [Bool.eq_false_iff]
    intro h
    have := preAt_le h hi
    have : t.data.toList.length = t.size := rfl
    omega
end Go.Proofs.Ytmkfeanggmjhmaa.L
namespace Go.Proofs.Ytmkfeanggmjhmaa.L
set_option linter.unusedSimpArgs false
set_option linter.unusedVariables false
open Go Go.RowKit Go.Proofs.YtmkfeanggmjhmaaW.PrintWords Go.Proofs.YtmkfeanggmjhmaaW.PrintLast Go.Proofs.YtmkfeanggmjhmaaW.PrintMore
open Go.Proofs.Ytmkfeanggmjhmaa.M Go.Proofs.Ytmkfeanggmjhmaa.E Go.Proofs.Ytmkfeanggmjhmaa.PTokenScans

theorem named_ev (s : ByteArray) (hs : s.size ≤ 1000000000) (i : Nat) (hi : i ≤ s.size) : Evt (fun k => triforiumref14_named.f k s i) (namedE s i : Int) := by
  unfold triforiumref14_named.f namedE
  refine Evt.bind (Evt.of _ (starts_eq s (by omega) i hi ⟨#[92, 60]⟩ (by decide))) ?_
  have e0 : (⟨#[92, 60]⟩ : ByteArray).data.toList = [92, 60] := rfl
  rw [e0]
  by_cases hp : preAt s i [92, 60] = true
  · rw [if_pos hp]
    have hle := preAt_le hp hi
    simp only [List.length_cons, List.length_nil] at hle
    refine Evt.tt hp ?_
    have hw : wrap64 ((i : Int) + 2) = ((i + 2 : Nat) : Int) := w64 (by omega) (by omega)
    simp only [hw]
    refine Evt.bind (ident_ev s (i + 2) (by omega) (by omega)) ?_
    have h1 := identE_ge s (i + 2)
    have h2 := identE_le s (i + 2) (by omega)
    generalize identE s (i + 2) = e at h1 h2
    by_cases ha : e = i + 2
    · refine (Evt.tt (by omega) (Evt.const _)).eq ?_
      rw [if_pos (.inl ha)]
    · refine Evt.ff (by omega) ?_
      by_cases hb : e = s.size
      · refine (Evt.tt (by omega) (Evt.const _)).eq ?_
        rw [if_pos (.inr (.inl hb))]
      · refine Evt.ff (by omega) (Evt.tt (by omega) (Evt.tt (by omega) ?_))
        by_cases hc : bt s e = 62
        · refine (Evt.tt hc (Evt.const _)).eq ?_
          rw [if_neg (fun h => h.elim ha (fun h => h.elim hb (fun h => h hc))), w64 (by omega) (by omega)]
          rfl
        · refine (Evt.ff hc (Evt.const _)).eq ?_
          rw [if_pos (.inr (.inr hc))]
  · rw [if_neg hp]
    exact Evt.ff hp (Evt.const _)

theorem opened_none (s : ByteArray) (h : s.data.toList = opened) : identE s 0 ≠ s.size ∧ runE s 0 ≠ s.size ∧ s.size ≠ 1 := by
  obtain ⟨⟨l⟩⟩ := s
  simp only at h
  subst h
  refine ⟨?_, ?_, ?_⟩ <;> decide
theorem closed_none (s : ByteArray) (h : s.data.toList = closed) : identE s 0 ≠ s.size ∧ runE s 0 ≠ s.size ∧ s.size ≠ 1 := by
  obtain ⟨⟨l⟩⟩ := s
  simp only at h
  subst h
  refine ⟨?_, ?_, ?_⟩ <;> decide

theorem isKeyword_ev (s : ByteArray) (hs : s.size ≤ 1000000000) : Evt (fun k => triforiumref14_isKeyword.f k s) (kwB s) := by
  unfold triforiumref14_isKeyword.f kwB
  by_cases h0 : s.size = 0
  · refine Evt.tt (by omega) ?_
    rw [decide_eq_true h0]
    simp only [Bool.true_or, Bool.not_true, Bool.false_and]
    exact Evt.succ (g := fun _ => some false) (fun k => rfl) (Evt.const _)
  · refine Evt.ff (by omega) ?_
    by_cases h40 : 40 < s.size
    · rw [decide_eq_true h40, decide_eq_true (show (s.size : Int) > 40 by omega)]
      simp only [Bool.true_or, Bool.or_true, Bool.not_true, Bool.false_and]
      exact Evt.succ (g := fun _ => some false) (fun k => rfl) (Evt.const _)
    · rw [decide_eq_false h0, decide_eq_false h40, decide_eq_false (show ¬ (s.size : Int) > 40 by omega)]
      simp only [Bool.false_or]
      refine Evt.succ (fun k => rfl) ?_
      refine Evt.ff (g := fun _ => some false) (c := false = true) (by decide) ?_
      refine Evt.bind (ident_ev s 0 (by omega) (by omega)) ?_
      by_cases ha : identE s 0 = s.size
      · refine Evt.tt (by omega) ?_
        rw [decide_eq_true ha]
        have n1 : s.data.toList ≠ opened := fun e => (opened_none s e).1 ha
        have n2 : s.data.toList ≠ closed := fun e => (closed_none s e).1 ha
        rw [decide_eq_false n1, decide_eq_false n2]
        exact Evt.const _
      · refine Evt.ff (by omega) ?_
        rw [decide_eq_false ha]
        refine Evt.bind (signs_ev s (by omega) 0 (by omega)) ?_
        by_cases hb : runE s 0 = s.size
        · refine Evt.tt (by omega) ?_
          rw [decide_eq_true hb]
          have n1 : s.data.toList ≠ opened := fun e => (opened_none s e).2.1 hb
          have n2 : s.data.toList ≠ closed := fun e => (closed_none s e).2.1 hb
          rw [decide_eq_false n1, decide_eq_false n2]
          exact Evt.const _
        · refine Evt.ff (by omega) ?_
          rw [decide_eq_false hb]
          have hnam : Evt (fun k => (triforiumref14_named.f k s 0).bind fun t113 => (if t113 = (s.size : Int) then (if s.toList = ([92, 60, 111, 112, 101, 110, 62] : List UInt8) then (some false) else (some (s.toList != ([92, 60, 99, 108, 111, 115, 101, 62] : List UInt8)))) else (some false)))
              (!(decide (s.data.toList = opened) || decide (s.data.toList = closed)) && decide (namedE s 0 = s.size)) := by
            refine Evt.bind (named_ev s hs 0 (by omega)) ?_
            by_cases hc : namedE s 0 = s.size
            · refine Evt.tt (by omega) ?_
              rw [decide_eq_true hc, Bool.and_true, Lib.toList_data]
              by_cases ho : s.data.toList = opened
              · rw [decide_eq_true ho]
                exact Evt.tt ho (Evt.const _)
              · rw [decide_eq_false ho, Bool.false_or]
                refine Evt.ff ho ?_
                by_cases hcl : s.data.toList = closed
                · rw [decide_eq_true hcl]
                  refine Evt.of _ ?_
                  rw [show s.data.toList = [92, 60, 99, 108, 111, 115, 101, 62] from hcl]
                  rfl
                · rw [decide_eq_false hcl]
                  refine Evt.of _ ?_
                  congr 1
                  exact bne_iff_ne.2 hcl
            · rw [decide_eq_false hc, Bool.and_false]
              exact Evt.ff (by omega) (Evt.const _)
          by_cases h1 : s.size = 1
          · refine Evt.tt (by omega) (Evt.tt (by omega) ?_)
            refine Evt.bind (has_ev pointT (bt s 0) (by decide)) ?_
            rw [decide_eq_true h1, Bool.true_and, point_has _ (bt_range s 0).1 (bt_range s 0).2]
            have n1 : s.data.toList ≠ opened := fun e => (opened_none s e).2.2 h1
            have n2 : s.data.toList ≠ closed := fun e => (closed_none s e).2.2 h1
            by_cases hh : hasB pointT (bt s 0) = true
            · refine Evt.tt hh ?_
              rw [hh, decide_eq_false n1, decide_eq_false n2]
              simp only [Bool.or_true, Bool.or_false, Bool.not_false, Bool.and_true]
              exact Evt.const _
            · refine Evt.ff hh ?_
              rw [Bool.eq_false_iff.2 hh]
              simp only [Bool.or_false, Bool.false_or]
              exact hnam
          · refine Evt.ff (by omega) ?_
            rw [decide_eq_false h1]
            simp only [Bool.or_false, Bool.false_or, Bool.false_and]
            exact hnam

theorem rd_eq (l : List ByteArray) (k : Nat) (h : k < l.length) : rdOf ByteArray.empty l (k : Int) = l[k]'h := by
  unfold rdOf
  simp [h]

theorem dup_loop (l : List ByteArray) (hl : l.length ≤ 1000000) (i : Nat) (hi : i < l.length) : ∀ d j : Nat, i - j ≤ d → j ≤ i → ∀ r : Int,
    (if (((l.take i).drop j).any (fun t => (l[i]'hi).data.toList == t.data.toList)) = true then r = 10 else Evt (fun k => triforiumref14_Check.l0 k l ((i + 1 : Nat) : Int)) r) → Evt (fun k => triforiumref14_Check.l1 k l i j) r := by
  intro d
  induction d with
  | zero =>
    intro j hd hj r h
    obtain rfl : j = i := by omega
    refine Evt.succ (fun k => rfl) ?_
    refine Evt.ff (by omega) ?_
    rw [List.drop_eq_nil_of_le (by simp; omega)] at h
    simp only [List.any_nil, Bool.false_eq_true, if_false] at h
    rw [w64 (by omega) (by omega)]
    exact h
  | succ d ih =>
    intro j hd hj r h
    by_cases hlt : j < i
    · refine Evt.succ (fun k => rfl) ?_
      refine Evt.tt (by omega) (Evt.tt (by omega) (Evt.tt (by omega) (Evt.tt (by omega) (Evt.tt (by omega) ?_))))
      rw [rd_eq l j (by omega), rd_eq l i hi, Lib.toList_data, Lib.toList_data]
      have hjl : j < (l.take i).length := by simp; omega
      rw [List.drop_eq_getElem_cons hjl, List.any_cons] at h
      have e : (l.take i)[j]'hjl = l[j]'(by omega) := by simp
      rw [e] at h
      by_cases he : (l[j]'(by omega)).data.toList = (l[i]'hi).data.toList
      · refine Evt.tt he ?_
        rw [beq_iff_eq.2 he.symm, Bool.true_or, if_pos rfl] at h
        rw [h]
        exact Evt.const _
      · refine Evt.ff he ?_
        rw [beq_eq_false_iff_ne.2 (fun e => he e.symm), Bool.false_or] at h
        rw [w64 (by omega) (by omega)]
        exact ih (j + 1) (by omega) (by omega) r h
    · obtain rfl : j = i := by omega
      refine Evt.succ (fun k => rfl) ?_
      refine Evt.ff (by omega) ?_
      rw [List.drop_eq_nil_of_le (by simp; omega)] at h
      simp only [List.any_nil, Bool.false_eq_true, if_false] at h
      rw [w64 (by omega) (by omega)]
      exact h

theorem Check_loop (l : List ByteArray) (hl : l.length ≤ 1000000) (hs : ∀ x ∈ l, x.size ≤ 1000000000) : ∀ d i : Nat, l.length - i ≤ d → i ≤ l.length → Evt (fun k => triforiumref14_Check.l0 k l i) (checkL (l.take i) (l.drop i)) := by
  intro d
  induction d with
  | zero =>
    intro i hd hi
    refine Evt.succ (fun k => rfl) ?_
    refine Evt.ff (by omega) ?_
    rw [List.drop_eq_nil_of_le (by omega)]
    exact Evt.const _
  | succ d ih =>
    intro i hd hi
    by_cases hlt : i < l.length
    · refine Evt.succ (fun k => rfl) (Evt.tt (by omega) (Evt.tt (by omega) ?_))
      rw [rd_eq l i hlt, List.drop_eq_getElem_cons hlt, checkL]
      refine Evt.bind (isKeyword_ev _ (hs _ (List.getElem_mem hlt))) ?_
      by_cases hk : kwB (l[i]'hlt) = true
      · refine Evt.tt hk ?_
        rw [if_pos hk]
        refine dup_loop l hl i hlt _ 0 (Nat.le_refl _) (by omega) _ ?_
        rw [List.drop_zero]
        split
        · rfl
        · have := ih (i + 1) (by omega) (by omega)
          rw [List.take_succ_eq_append_getElem hlt] at this
          exact this
      · rw [if_neg hk]
        exact Evt.ff hk (Evt.const _)
    · refine Evt.succ (fun k => rfl) (Evt.ff (by omega) ?_)
      rw [List.drop_eq_nil_of_le (by omega)]
      exact Evt.const _
theorem Check_ev (l : List ByteArray) (hs : ∀ x ∈ l, x.size ≤ 1000000000) : Evt (fun k => triforiumref14_Check.f k l) (checkE l) := by
  unfold triforiumref14_Check.f checkE
  by_cases h : 500 < l.length
  · rw [if_pos h]
    exact Evt.tt (by omega) (Evt.const _)
  · rw [if_neg h]
    refine Evt.ff (by omega) ?_
    exact Check_loop l (by omega) hs _ 0 (Nat.le_refl _) (by omega)
end Go.Proofs.Ytmkfeanggmjhmaa.L
