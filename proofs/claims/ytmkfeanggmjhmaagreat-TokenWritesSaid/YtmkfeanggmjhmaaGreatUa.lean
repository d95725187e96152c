/- The printed reference of tokens is the plain scanner: names, signs, keywords. -/
import Derived.Lib.Hide
import Derived.Test.YtmkfeanggmjhmaaGreatPTokenWritesx2
import Derived.Test.YtmkfeanggmjhmaaGreatM
import Derived.Test.YtmkfeanggmjhmaaGreatE
import Derived.Lib.Strings
namespace Go.Proofs.YtmkfeanggmjhmaaGreat.L
set_option linter.unusedSimpArgs false
set_option linter.unusedVariables false
open Go Go.RowKit Go.Proofs.YtmkfeanggmjhmaaGreatW.PrintWords Go.Proofs.YtmkfeanggmjhmaaGreatW.PrintLast Go.Proofs.YtmkfeanggmjhmaaGreatW.PrintMore
open Go.Proofs.YtmkfeanggmjhmaaGreat.M Go.Proofs.YtmkfeanggmjhmaaGreat.E Go.Proofs.YtmkfeanggmjhmaaGreat.PTokenWrites

theorem letter_eq (c : Int) : triforiumref14_letter.f c = some (letterB c) := by
  unfold triforiumref14_letter.f letterB
  repeat' split
  all_goals
    first
    | (rw [decide_eq_true (by omega)]; done)
    | (by_cases h : c = 95
       · subst h; rfl
       · rw [decide_eq_false (by omega), beq_eq_false_iff_ne.2 h])
theorem digit_eq (c : Int) : triforiumref14_digit.f c = some (digitB c) := by
  unfold triforiumref14_digit.f digitB
  split
  · congr 1; simp; omega
  · rw [decide_eq_false (by omega)]

theorem bt_nat (s : ByteArray) (i : Nat) (h : i < s.size) : bt s i = ((s[i]'h).toNat : Int) := by unfold bt; simp [h]

theorem ident_loop (s : ByteArray) (i : Nat) (hs : s.size ≤ 1000000000000) : ∀ d j : Nat, s.size - j ≤ d → i < j → j ≤ 2000000000000 → Evt (fun k => triforiumref14_ident.l0 k s i j) (whileE identB s j : Int) := by
  intro d
  induction d with
  | zero =>
    intro j hd hij hj
    refine Evt.succ (fun k => rfl) ?_
    refine Evt.ff (by omega) ?_
    rw [whileE_end _ _ _ (by omega)]
    exact Evt.const _
  | succ d ih =>
    intro j hd hij hj
    by_cases hlt : j < s.size
    · refine Evt.succ (fun k => rfl) ?_
      refine Evt.tt (by omega) (Evt.tt (by omega) ?_)
      refine Evt.bind (Evt.of _ (letter_eq _)) ?_
      have hw : wrap64 ((j : Int) + 1) = ((j + 1 : Nat) : Int) := w64 (by omega) (by omega)
      by_cases h1 : letterB (bt s j) = true
      · refine Evt.tt h1 ?_
        rw [hw, whileE_hit identB s j hlt (by unfold identB; rw [h1]; rfl)]
        exact ih (j + 1) (by omega) (by omega) (by omega)
      · refine Evt.ff h1 (Evt.tt (by omega) ?_)
        refine Evt.bind (Evt.of _ (digit_eq _)) ?_
        by_cases h2 : digitB (bt s j) = true
        · refine Evt.tt h2 ?_
          rw [hw, whileE_hit identB s j hlt (by unfold identB; rw [h2]; simp)]
          exact ih (j + 1) (by omega) (by omega) (by omega)
        · refine Evt.ff h2 ?_
          by_cases h3 : bt s j = 39
          · refine Evt.tt h3 ?_
            rw [hw, whileE_hit identB s j hlt (by unfold identB; rw [h3]; rfl)]
            exact ih (j + 1) (by omega) (by omega) (by omega)
          · refine Evt.ff h3 ?_
            rw [whileE_miss identB s j hlt (by unfold identB; rw [Bool.eq_false_iff.2 h1, Bool.eq_false_iff.2 h2, decide_eq_false h3]; rfl)]
            exact Evt.const _
    · refine Evt.succ (fun k => rfl) ?_
      refine Evt.ff (by omega) ?_
      rw [whileE_end _ _ _ (by omega)]
      exact Evt.const _

theorem ident_ev (s : ByteArray) (i : Nat) (hs : s.size ≤ 1000000000000) (hi : i ≤ 1000000000000) : Evt (fun k => triforiumref14_ident.f k s i) (identE s i : Int) := by
  unfold triforiumref14_ident.f identE
  by_cases hlt : i < s.size
  · rw [if_pos hlt]
    refine Evt.succ (fun k => rfl) ?_
    refine Evt.tt (by omega) (Evt.tt (by omega) ?_)
    refine Evt.bind (Evt.of _ (letter_eq _)) ?_
    have hw : wrap64 ((i : Int) + 1) = ((i + 1 : Nat) : Int) := w64 (by omega) (by omega)
    by_cases h1 : letterB (bt s i) = true
    · refine Evt.tt h1 ?_
      rw [hw, if_pos h1, whileE_hit identB s i hlt (by unfold identB; rw [h1]; rfl)]
      exact ident_loop s i hs _ (i + 1) (Nat.le_refl _) (by omega) (by omega)
    · refine Evt.ff h1 (Evt.ff (by omega) ?_)
      rw [if_neg h1]
      exact Evt.const _
  · rw [if_neg hlt]
    refine Evt.succ (fun k => rfl) ?_
    exact Evt.ff (by omega) (Evt.const _)

def hasB (t : ByteArray) (c : Int) : Bool := t.data.toList.any (fun b => decide ((b.toNat : Int) = c))
theorem has_loop (t : ByteArray) (c : Int) (hs : t.size ≤ 1000000000000) : ∀ d j : Nat, t.size - j ≤ d → j ≤ 2000000000000 → Evt (fun k => triforiumref14_has.l0 k t c j) ((t.data.toList.drop j).any (fun b => decide ((b.toNat : Int) = c))) := by
  intro d
  induction d with
  | zero =>
    intro j hd hj
    refine Evt.succ (fun k => rfl) ?_
    refine Evt.ff (by omega) ?_
    rw [List.drop_eq_nil_of_le (by show t.size ≤ j; omega)]
    exact Evt.const _
  | succ d ih =>
    intro j hd hj
    by_cases hlt : j < t.size
    · refine Evt.succ (fun k => rfl) ?_
      refine Evt.tt (by omega) (Evt.tt (by omega) ?_)
      have hw : wrap64 ((j : Int) + 1) = ((j + 1 : Nat) : Int) := w64 (by omega) (by omega)
      have hl : j < t.data.toList.length := hlt
      have he : t.data.toList[j]'hl = t[j]'hlt := rfl
      rw [List.drop_eq_getElem_cons hl, List.any_cons, he, bt_nat t j hlt]
      by_cases h1 : ((t[j]'hlt).toNat : Int) = c
      · rw [decide_eq_true h1, Bool.true_or]
        exact Evt.tt h1 (Evt.const _)
      · rw [decide_eq_false h1, Bool.false_or]
        refine Evt.ff h1 ?_
        rw [hw]
        exact ih (j + 1) (by omega) (by omega)
    · refine Evt.succ (fun k => rfl) ?_
      refine Evt.ff (by omega) ?_
      rw [List.drop_eq_nil_of_le (by show t.size ≤ j; omega)]
      exact Evt.const _
theorem has_ev (t : ByteArray) (c : Int) (hs : t.size ≤ 1000000000000) : Evt (fun k => triforiumref14_has.f k t c) (hasB t c) := by
  have := has_loop t c hs _ 0 (Nat.le_refl _) (by omega)
  rw [List.drop_zero] at this
  exact this

def signT : ByteArray := ⟨#[33, 35, 36, 37, 38, 42, 43, 45, 47, 58, 60, 61, 62, 64, 94, 124, 126]⟩
def pointT : ByteArray := ⟨#[40, 41, 91, 93, 123, 125, 44, 59, 46]⟩
def digitT : ByteArray := ⟨#[48, 49, 50, 51, 52, 53, 54, 55, 56, 57]⟩
theorem has_list (l : List UInt8) (c : Int) (h0 : 0 ≤ c) (h1 : c ≤ 255) : l.contains c.toNat.toUInt8 = l.any (fun b => decide ((b.toNat : Int) = c)) := by
  induction l with
  | nil => rfl
  | cons b r ih =>
    rw [List.contains_cons, List.any_cons, ih]
    congr 1
    obtain ⟨n, rfl⟩ := Int.eq_ofNat_of_zero_le h0
    rw [Int.toNat_natCast]
    have hn : n < 256 := by omega
    by_cases h : (b.toNat : Int) = (n : Int)
    · rw [decide_eq_true h, beq_iff_eq]
      have : b.toNat = n := by omega
      subst this
      simp
    · rw [decide_eq_false h, beq_eq_false_iff_ne]
      intro e
      apply h
      rw [← e]
      simp
      omega
theorem sign_has (c : Int) (h0 : 0 ≤ c) (h1 : c ≤ 255) : signB c = hasB signT c := has_list _ _ h0 h1
theorem point_has (c : Int) (h0 : 0 ≤ c) (h1 : c ≤ 255) : pointB c = hasB pointT c := has_list _ _ h0 h1
theorem digit_has (c : Int) : digitB c = hasB digitT c := by
  unfold digitB hasB digitT
  simp only [List.any_cons, List.any_nil, Bool.or_false]
  rw [Bool.eq_iff_iff]
  simp only [Bool.or_eq_true, decide_eq_true_eq]
  constructor
  · intro h
    rcases (show c = 48 ∨ c = 49 ∨ c = 50 ∨ c = 51 ∨ c = 52 ∨ c = 53 ∨ c = 54 ∨ c = 55 ∨ c = 56 ∨ c = 57 by omega) with rfl | rfl | rfl | rfl | rfl | rfl | rfl | rfl | rfl | rfl <;> decide
  · rintro (h | h | h | h | h | h | h | h | h | h) <;> (rw [← h]; decide)

theorem skipW_congr (p q : Int → Bool) (s : ByteArray) (h : ∀ j : Nat, p (bt s j) = q (bt s j)) : ∀ d i, skipW p s d i = skipW q s d i := by
  intro d
  induction d with
  | zero => intro i; rfl
  | succ d ih => intro i; unfold skipW; rw [h, ih]
theorem whileE_congr (p q : Int → Bool) (s : ByteArray) (h : ∀ j : Nat, p (bt s j) = q (bt s j)) (i : Nat) : whileE p s i = whileE q s i := skipW_congr p q s h _ i

theorem run_loop (s t : ByteArray) (ht : t.size ≤ 1000000000000) (hs : s.size ≤ 1000000000000) : ∀ d j : Nat, s.size - j ≤ d → j ≤ 2000000000000 → Evt (fun k => triforiumref14_run.l0 k s j t) (whileE (hasB t) s j : Int) := by
  intro d
  induction d with
  | zero =>
    intro j hd hj
    refine Evt.succ (fun k => rfl) ?_
    refine Evt.ff (by omega) ?_
    rw [whileE_end _ _ _ (by omega)]
    exact Evt.const _
  | succ d ih =>
    intro j hd hj
    by_cases hlt : j < s.size
    · refine Evt.succ (fun k => rfl) ?_
      refine Evt.tt (by omega) (Evt.tt (by omega) ?_)
      refine Evt.bind (has_ev t _ ht) ?_
      have hw : wrap64 ((j : Int) + 1) = ((j + 1 : Nat) : Int) := w64 (by omega) (by omega)
      by_cases h1 : hasB t (bt s j) = true
      · refine Evt.tt h1 ?_
        rw [hw, whileE_hit _ s j hlt h1]
        exact ih (j + 1) (by omega) (by omega)
      · refine Evt.ff h1 ?_
        rw [whileE_miss _ s j hlt (Bool.eq_false_iff.2 h1)]
        exact Evt.const _
    · refine Evt.succ (fun k => rfl) ?_
      refine Evt.ff (by omega) ?_
      rw [whileE_end _ _ _ (by omega)]
      exact Evt.const _
theorem run_ev (s t : ByteArray) (ht : t.size ≤ 1000000000000) (hs : s.size ≤ 1000000000000) (j : Nat) (hj : j ≤ 2000000000000) : Evt (fun k => triforiumref14_run.f k s j t) (whileE (hasB t) s j : Int) :=
  run_loop s t ht hs _ j (Nat.le_refl _) hj
theorem signs_ev (s : ByteArray) (hs : s.size ≤ 1000000000000) (j : Nat) (hj : j ≤ 2000000000000) : Evt (fun k => triforiumref14_run.f k s j signT) (runE s j : Int) :=
  (run_ev s signT (by decide) hs j hj).eq (by rw [runE, whileE_congr signB (hasB signT) s (fun j => sign_has _ (bt_range s j).1 (bt_range s j).2)])
theorem digits_ev (s : ByteArray) (hs : s.size ≤ 1000000000000) (j : Nat) (hj : j ≤ 2000000000000) : Evt (fun k => triforiumref14_run.f k s j digitT) (whileE digitB s j : Int) :=
  (run_ev s digitT (by decide) hs j hj).eq (by rw [whileE_congr digitB (hasB digitT) s (fun j => digit_has _)])

theorem starts_eq (s : ByteArray) (hs : s.size ≤ 1000000000000) (i : Nat) (hi : i ≤ s.size) (t : ByteArray) (ht : t.size ≤ 1000000000000) : triforiumref14_starts.f s i t = some (preAt s i t.data.toList) := by
  unfold triforiumref14_starts.f
  have hw : wrap64 ((i : Int) + (t.size : Int)) = ((i + t.size : Nat) : Int) := w64 (by omega) (by omega)
  rw [hw]
  by_cases hle : i + t.size ≤ s.size
  · rw [if_pos (by omega), if_pos (by omega), if_pos (by omega), Int.toNat_natCast, Int.toNat_natCast]
    congr 1
    unfold preAt
    rw [Bool.eq_iff_iff, beq_iff_eq, List.isPrefixOf_iff_prefix, Lib.toList_data, Lib.toList_data]
    have e : (s.extract i (i + t.size)).data.toList = (s.data.toList.drop i).take t.size := by
      rw [ByteArray.data_extract, Array.toList_extract, List.extract_eq_take_drop]
      congr 1
      omega
    rw [e]
    constructor
    · intro h; rw [← h]; exact List.take_prefix _ _
    · intro h
      have := List.prefix_iff_eq_take.1 h
      rw [this]
      rfl
  · rw [if_neg (by omega)]
    congr 1
    symm
    rw [Bool.eq_false_iff]
    intro h
    have := preAt_le h hi
    have : t.data.toList.length = t.size := rfl
    omega
end Go.Proofs.YtmkfeanggmjhmaaGreat.L
namespace Go.Proofs.YtmkfeanggmjhmaaGreat.L
set_option linter.unusedSimpArgs false
set_option linter.unusedVariables false
open Go Go.RowKit Go.Proofs.YtmkfeanggmjhmaaGreatW.PrintWords Go.Proofs.YtmkfeanggmjhmaaGreatW.PrintLast Go.Proofs.YtmkfeanggmjhmaaGreatW.PrintMore
open Go.Proofs.YtmkfeanggmjhmaaGreat.M Go.Proofs.YtmkfeanggmjhmaaGreat.E Go.Proofs.YtmkfeanggmjhmaaGreat.PTokenWrites

theorem named_ev (s : ByteArray) (hs : s.size ≤ 1000000000) (i : Nat) (hi : i ≤ s.size) : Evt (fun k => triforiumref14_named.f k s i) (namedE s i : Int) := by
  unfold triforiumref14_named.f namedE
  refine Evt.bind (Evt.of _ (starts_eq s (by omega) i hi ⟨#[92, 60]⟩ (by decide))) ?_
  have e0 : (⟨#[92, 60]⟩ : ByteArray).data.toList = [92, 60] := rfl
  rw [e0]
  by_cases hp : preAt s i [92, 60] = true
  · rw [if_pos hp]
    have hle := preAt_le hp hi
    simp only [List.length_cons, List.length_nil] at hle
    refine Evt.tt hp ?_
    have hw : wrap64 ((i : Int) + 2) = ((i + 2 : Nat) : Int) := w64 (by omega) (by omega)
    simp only [hw]
    refine Evt.bind (ident_ev s (i + 2) (by omega) (by omega)) ?_
    have h1 := identE_ge s (i + 2)
    have h2 := identE_le s (i + 2) (by omega)
    generalize identE s (i + 2) = e at h1 h2
    by_cases ha : e = i + 2
    · refine (Evt.tt (by omega) (Evt.const _)).eq ?_
      rw [if_pos (.inl ha)]
    · refine Evt.ff (by omega) ?_
      by_cases hb : e = s.size
      · refine (Evt.tt (by omega) (Evt.const _)).eq ?_
        rw [if_pos (.inr (.inl hb))]
      · refine Evt.ff (by omega) (Evt.tt (by omega) (Evt.tt (by omega) ?_))
        by_cases hc : bt s e = 62
        · refine (Evt.tt hc (Evt.const _)).eq ?_
          rw [if_neg (fun h => h.elim ha (fun h => h.elim hb (fun h => h hc))), w64 (by omega) (by omega)]
          rfl
        · refine (Evt.ff hc (Evt.const _)).eq ?_
          rw [if_pos (.inr (.inr hc))]
  · rw [if_neg hp]
    exact Evt.ff hp (Evt.const _)

theorem opened_none (s : ByteArray) (h : s.data.toList = opened) : identE s 0 ≠ s.size ∧ runE s 0 ≠ s.size ∧ s.size ≠ 1 := by
  obtain ⟨⟨l⟩⟩ := s
  simp only at h
  subst h
  refine ⟨?_, ?_, ?_⟩ <;> decide
theorem closed_none (s : ByteArray) (h : s.data.toList = closed) : identE s 0 ≠ s.size ∧ runE s 0 ≠ s.size ∧ s.size ≠ 1 := by
  obtain ⟨⟨l⟩⟩ := s
  simp only at h
  subst h
  refine ⟨?_, ?_, ?_⟩ <;> decide

theorem isKeyword_ev (s : ByteArray) (hs : s.size ≤ 1000000000) : Evt (fun k => triforiumref14_isKeyword.f k s) (kwB s) := by
  unfold triforiumref14_isKeyword.f kwB
  by_cases h0 : s.size = 0
  · refine Evt.tt (by omega) ?_
    rw [decide_eq_true h0]
    simp only [Bool.true_or, Bool.not_true, Bool.false_and]
    exact Evt.succ (g := fun _ => some false) (fun k => rfl) (Evt.const _)
  · refine Evt.ff (by omega) ?_
    by_cases h40 : 40 < s.size
    · rw [decide_eq_true h40, decide_eq_true (show (s.size : Int) > 40 by omega)]
      simp only [Bool.true_or, Bool.or_true, Bool.not_true, Bool.false_and]
      exact Evt.succ (g := fun _ => some false) (fun k => rfl) (Evt.const _)
    · rw [decide_eq_false h0, decide_eq_false h40, decide_eq_false (show ¬ (s.size : Int) > 40 by omega)]
      simp only [Bool.false_or]
      refine Evt.succ (fun k => rfl) ?_
      refine Evt.ff (g := fun _ => some false) (c := false = true) (by decide) ?_
      refine Evt.bind (ident_ev s 0 (by omega) (by omega)) ?_
      by_cases ha : identE s 0 = s.size
      · refine Evt.tt (by omega) ?_
        rw [decide_eq_true ha]
        have n1 : s.data.toList ≠ opened := fun e => (opened_none s e).1 ha
        have n2 : s.data.toList ≠ closed := fun e => (closed_none s e).1 ha
        rw [decide_eq_false n1, decide_eq_false n2]
        exact Evt.const _
      · refine Evt.ff (by omega) ?_
        rw [decide_eq_false ha]
        refine Evt.bind (signs_ev s (by omega) 0 (by omega)) ?_
        by_cases hb : runE s 0 = s.size
        · refine Evt.tt (by omega) ?_
          rw [decide_eq_true hb]
          have n1 : s.data.toList ≠ opened := fun e => (opened_none s e).2.1 hb
          have n2 : s.data.toList ≠ closed := fun e => (closed_none s e).2.1 hb
          rw [decide_eq_false n1, decide_eq_false n2]
          exact Evt.const _
        · refine Evt.ff (by omega) ?_
          rw [decide_eq_false hb]
          have hnam : Evt (fun k => (triforiumref14_named.f k s 0).bind fun t113 => (if t113 = (s.size : Int) then (if s.toList = ([92, 60, 111, 112, 101, 110, 62] : List UInt8) then (some false) else (some (s.toList != ([92, 60, 99, 108, 111, 115, 101, 62] : List UInt8)))) else (some false)))
              (!(decide (s.data.toList = opened) || decide (s.data.toList = closed)) && decide (namedE s 0 = s.size)) := by
            refine Evt.bind (named_ev s hs 0 (by omega)) ?_
            by_cases hc : namedE s 0 = s.size
            · refine Evt.tt (by omega) ?_
              rw [decide_eq_true hc, Bool.and_true, Lib.toList_data]
              by_cases ho : s.data.toList = opened
              · rw [decide_eq_true ho]
                exact Evt.tt ho (Evt.const _)
              · rw [decide_eq_false ho, Bool.false_or]
                refine Evt.ff ho ?_
                by_cases hcl : s.data.toList = closed
                · rw [decide_eq_true hcl]
                  refine Evt.of _ ?_
                  rw [show s.data.toList = [92, 60, 99, 108, 111, 115, 101, 62] from hcl]
                  rfl
                · rw [decide_eq_false hcl]
                  refine Evt.of _ ?_
                  congr 1
                  exact bne_iff_ne.2 hcl
            · rw [decide_eq_false hc, Bool.and_false]
              exact Evt.ff (by omega) (Evt.const _)
          by_cases h1 : s.size = 1
          · refine Evt.tt (by omega) (Evt.tt (by omega) ?_)
            refine Evt.bind (has_ev pointT (bt s 0) (by decide)) ?_
            rw [decide_eq_true h1, Bool.true_and, point_has _ (bt_range s 0).1 (bt_range s 0).2]
            have n1 : s.data.toList ≠ opened := fun e => (opened_none s e).2.2 h1
            have n2 : s.data.toList ≠ closed := fun e => (closed_none s e).2.2 h1
            by_cases hh : hasB pointT (bt s 0) = true
            · refine Evt.tt hh ?_
              rw [hh, decide_eq_false n1, decide_eq_false n2]
              simp only [Bool.or_true, Bool.or_false, Bool.not_false, Bool.and_true]
              exact Evt.const _
            · refine Evt.ff hh ?_
              rw [Bool.eq_false_iff.2 hh]
              simp only [Bool.or_false, Bool.false_or]
              exact hnam
          · refine Evt.ff (by omega) ?_
            rw [decide_eq_false h1]
            simp only [Bool.or_false, Bool.false_or, Bool.false_and]
            exact hnam

theorem rd_eq (l : List ByteArray) (k : Nat) (h : k < l.length) : rdOf ByteArray.empty l (k : Int) = l[k]'h := by
  unfold rdOf
  simp [h]

theorem dup_loop (l : List ByteArray) (hl : l.length ≤ 1000000) (i : Nat) (hi : i < l.length) : ∀ d j : Nat, i - j ≤ d → j ≤ i → ∀ r : Int,
    (if (((l.take i).drop j).any (fun t => (l[i]'hi).data.toList == t.data.toList)) = true then r = 10 else Evt (fun k => triforiumref14_Check.l0 k l ((i + 1 : Nat) : Int)) r) → Evt (fun k => triforiumref14_Check.l1 k l i j) r := by
  intro d
  induction d with
  | zero =>
    intro j hd hj r h
    obtain rfl : j = i := by omega
    refine Evt.succ (fun k => rfl) ?_
    refine Evt.ff (by omega) ?_
    rw [List.drop_eq_nil_of_le (by simp; omega)] at h
    simp only [List.any_nil, Bool.false_eq_true, if_false] at h
    rw [w64 (by omega) (by omega)]
    exact h
  | succ d ih =>
    intro j hd hj r h
    by_cases hlt : j < i
    · refine Evt.succ (fun k => rfl) ?_
      refine Evt.tt (by omega) (Evt.tt (by omega) (Evt.tt (by omega) (Evt.tt (by omega) (Evt.tt (by omega) ?_))))
      rw [rd_eq l j (by omega), rd_eq l i hi, Lib.toList_data, Lib.toList_data]
      have hjl : j < (l.take i).length := by simp; omega
      rw [List.drop_eq_getElem_cons hjl, List.any_cons] at h
      have e : (l.take i)[j]'hjl = l[j]'(by omega) := by simp
      rw [e] at h
      by_cases he : (l[j]'(by omega)).data.toList = (l[i]'hi).data.toList
      · refine Evt.tt he ?_
        rw [beq_iff_eq.2 he.symm, Bool.true_or, if_pos rfl] at h
        rw [h]
        exact Evt.const _
      · refine Evt.ff he ?_
        rw [beq_eq_false_iff_ne.2 (fun e => he e.symm), Bool.false_or] at h
        rw [w64 (by omega) (by omega)]
        exact ih (j + 1) (by omega) (by omega) r h
    · obtain rfl : j = i := by omega
      refine Evt.succ (fun k => rfl) ?_
      refine Evt.ff (by omega) ?_
      rw [List.drop_eq_nil_of_le (by simp; omega)] at h
      simp only [List.any_nil, Bool.false_eq_true, if_false] at h
      rw [w64 (by omega) (by omega)]
      exact h

theorem Check_loop (l : List ByteArray) (hl : l.length ≤ 1000000) (hs : ∀ x ∈ l, x.size ≤ 1000000000) : ∀ d i : Nat, l.length - i ≤ d → i ≤ l.length → Evt (fun k => triforiumref14_Check.l0 k l i) (checkL (l.take i) (l.drop i)) := by
  intro d
  induction d with
  | zero =>
    intro i hd hi
    refine Evt.succ (fun k => rfl) ?_
    refine Evt.ff (by omega) ?_
    rw [List.drop_eq_nil_of_le (by omega)]
    exact Evt.const _
  | succ d ih =>
    intro i hd hi
    by_cases hlt : i < l.length
    · refine Evt.succ (fun k => rfl) (Evt.tt (by omega) (Evt.tt (by omega) ?_))
      rw [rd_eq l i hlt, List.drop_eq_getElem_cons hlt, checkL]
      refine Evt.bind (isKeyword_ev _ (hs _ (List.getElem_mem hlt))) ?_
      by_cases hk : kwB (l[i]'hlt) = true
      · refine Evt.tt hk ?_
        rw [if_pos hk]
        refine dup_loop l hl i hlt _ 0 (Nat.le_refl _) (by omega) _ ?_
        rw [List.drop_zero]
        split
        · rfl
        · have := ih (i + 1) (by omega) (by omega)
          rw [List.take_succ_eq_append_getElem hlt] at this
          exact this
      · rw [if_neg hk]
        exact Evt.ff hk (Evt.const _)
    · refine Evt.succ (fun k => rfl) (Evt.ff (by omega) ?_)
      rw [List.drop_eq_nil_of_le (by omega)]
      exact Evt.const _
theorem Check_ev (l : List ByteArray) (hs : ∀ x ∈ l, x.size ≤ 1000000000) : Evt (fun k => triforiumref14_Check.f k l) (checkE l) := by
  unfold triforiumref14_Check.f checkE
  by_cases h : 500 < l.length
  · rw [if_pos h]
    exact Evt.tt (by omega) (Evt.const _)
  · rw [if_neg h]
    refine Evt.ff (by omega) ?_
    exact Check_loop l (by omega) hs _ 0 (Nat.le_refl _) (by omega)
end Go.Proofs.YtmkfeanggmjhmaaGreat.L
namespace Go.Proofs.YtmkfeanggmjhmaaGreat.L
set_option linter.unusedSimpArgs false
set_option linter.unusedVariables false
open Go Go.RowKit Go.Proofs.YtmkfeanggmjhmaaGreatW.PrintWords Go.Proofs.YtmkfeanggmjhmaaGreatW.PrintLast Go.Proofs.YtmkfeanggmjhmaaGreatW.PrintMore
open Go.Proofs.YtmkfeanggmjhmaaGreat.M Go.Proofs.YtmkfeanggmjhmaaGreat.E Go.Proofs.YtmkfeanggmjhmaaGreat.PTokenWrites

def blP : Except Nat Nat → Int × Int
  | .ok j => (j, 0)
  | .error p => (p, 162)
theorem blanksE_blank (s : ByteArray) (i : Nat) (h : i < s.size) (hb : blankB (bt s i) = true) : blanksE s i = blanksE s (i + 1) := by
  have hw := whileE_hit blankB s i h hb
  have h2 := whileE_le blankB s (i + 1) (by omega)
  by_cases hp : preAt s (whileE blankB s (i + 1)) [40, 42] = true
  · cases hn : nestE s [40, 42] [42, 41] (whileE blankB s (i + 1)) 0 with
    | none => rw [blanksE_err s (i + 1) hp hn, blanksE_err s i (by rw [hw]; exact hp) (by rw [hw]; exact hn), hw]
    | some e => rw [blanksE_step s (i + 1) (by omega) hp hn, blanksE_step s i (by omega) (by rw [hw]; exact hp) (by rw [hw]; exact hn)]
  · rw [blanksE_none s (i + 1) (Bool.eq_false_iff.2 hp), blanksE_none s i (by rw [hw]; exact Bool.eq_false_iff.2 hp), hw]
theorem beq_iff (c d : Int) : (c == d) = decide (c = d) := by
  by_cases h : c = d
  · rw [decide_eq_true h]; exact beq_iff_eq.2 h
  · rw [decide_eq_false h]; exact beq_eq_false_iff_ne.2 h

def txP (i : Nat) : Option (List UInt8 × Nat) → Int × ByteArray × Int × Int × Int
  | some (l, j) => (8, ⟨l.toArray⟩, i, j, 0)
  | none => (0, ⟨#[]⟩, 0, i, 161)
theorem app_one (s : ByteArray) (out : List UInt8) (j : Nat) (h : j < s.size) : (⟨out.toArray⟩ : ByteArray) ++ s.extract j (j + 1) = ⟨(out ++ [(bt s j).toNat.toUInt8]).toArray⟩ := by
  have hb : (bt s j).toNat.toUInt8 = s[j]'h := by rw [bt_nat s j h, Int.toNat_natCast]; simp
  rw [hb]
  apply ByteArray.ext
  apply Array.ext'
  simp only [ByteArray.data_append, ByteArray.data_extract, Array.toList_append, Array.toList_extract, List.extract_eq_take_drop, Nat.add_sub_cancel_left]
  congr 1
  have hl : j < s.data.toList.length := h
  rw [List.drop_eq_getElem_cons hl, List.take_succ_cons, List.take_zero]
  rfl
theorem app_lit (out : List UInt8) : (⟨out.toArray⟩ : ByteArray) ++ (⟨#[10]⟩ : ByteArray) = ⟨(out ++ [10]).toArray⟩ := by
  apply ByteArray.ext
  apply Array.ext'
  simp
end Go.Proofs.YtmkfeanggmjhmaaGreat.L
namespace Go.Proofs.YtmkfeanggmjhmaaGreat.L
set_option linter.unusedSimpArgs false
set_option linter.unusedVariables false
open Go Go.RowKit Go.Proofs.YtmkfeanggmjhmaaGreatW.PrintWords Go.Proofs.YtmkfeanggmjhmaaGreatW.PrintLast Go.Proofs.YtmkfeanggmjhmaaGreatW.PrintMore
open Go.Proofs.YtmkfeanggmjhmaaGreat.M Go.Proofs.YtmkfeanggmjhmaaGreat.E Go.Proofs.YtmkfeanggmjhmaaGreat.PTokenWrites

def quP (i : Nat) (s : ByteArray) : Option Nat → Int × ByteArray × Int × Int × Int
  | some e => (9, s.extract (i + 7) (e - 8), i, e, 0)
  | none => (0, ⟨#[]⟩, 0, i, 161)
theorem preAt_cons (s : ByteArray) (i : Nat) (h : i < s.size) (c : UInt8) (t : List UInt8) : preAt s i (c :: t) = (decide (bt s i = (c.toNat : Int)) && preAt s (i + 1) t) := by
  unfold preAt
  have hl : i < s.data.toList.length := h
  rw [List.drop_eq_getElem_cons hl, List.isPrefixOf, bt_nat s i h]
  congr 1
  have e : s.data.toList[i]'hl = s[i]'h := rfl
  rw [e]
  by_cases he : c = s[i]'h
  · subst he
    simp
  · rw [beq_eq_false_iff_ne.2 he]
    symm
    rw [decide_eq_false_iff_not]
    intro e
    apply he
    apply UInt8.toNat_inj.1
    omega
theorem preAt_first {s : ByteArray} {i : Nat} {c : UInt8} {t : List UInt8} (h : i < s.size) (hp : preAt s i (c :: t) = true) : bt s i = (c.toNat : Int) := by
  rw [preAt_cons s i h] at hp
  simp only [Bool.and_eq_true, decide_eq_true_eq] at hp
  exact hp.1
theorem preAt_nil (s : ByteArray) (i : Nat) : preAt s i [] = true := by unfold preAt; simp [List.isPrefixOf]
theorem preAt_one (s : ByteArray) (i : Nat) (h : i < s.size) (c : UInt8) : preAt s i [c] = decide (bt s i = (c.toNat : Int)) := by
  rw [preAt_cons s i h, preAt_nil, Bool.and_true]

theorem ident_none {s : ByteArray} {i : Nat} (h : letterB (bt s i) = false) : identE s i = i := by
  unfold identE; split
  · rw [if_neg (by rw [h]; decide)]
  · rfl
theorem ident_some {s : ByteArray} {i : Nat} (hi : i < s.size) (h : letterB (bt s i) = true) : i < identE s i := by
  unfold identE
  rw [if_pos hi, if_pos h, whileE_hit identB s i hi (by unfold identB; rw [h]; rfl)]
  exact whileE_ge _ _ _
theorem names_none {s : ByteArray} {i : Nat} (h : letterB (bt s i) = false) : namesE s i = (1, i) := by
  unfold namesE; rw [ident_none h, if_neg (by omega)]
theorem mark_none {s : ByteArray} {i : Nat} (hi : i < s.size) {c : UInt8} {t : List UInt8} (h : bt s i ≠ (c.toNat : Int)) : markE s i (c :: t) = none := by
  unfold markE
  rw [if_neg]
  intro hp
  exact h (preAt_first hi hp)
theorem vars_none {s : ByteArray} {i : Nat} (hi : i < s.size) (h1 : bt s i ≠ 39) (h2 : bt s i ≠ 63) : varsE s i = (0, i) := by
  unfold varsE
  rw [mark_none hi (c := 39) h1, mark_none hi (c := 63) h2, mark_none hi (c := 63) h2]
theorem digits_none {s : ByteArray} {i : Nat} (hi : i < s.size) (h : digitB (bt s i) = false) : whileE digitB s i = i := whileE_miss _ _ _ hi h
theorem named_none {s : ByteArray} {i : Nat} (hi : i < s.size) (h : bt s i ≠ 92) : namedE s i = i := by
  unfold namedE
  rw [if_neg]
  intro hp
  exact h (preAt_first hi hp)
theorem run_none {s : ByteArray} {i : Nat} (hi : i < s.size) (h : signB (bt s i) = false) : runE s i = i := whileE_miss _ _ _ hi h
theorem sym_none {s : ByteArray} {i : Nat} (hi : i < s.size) (h1 : bt s i ≠ 92) (h2 : signB (bt s i) = false) (h3 : pointB (bt s i) = false) : symE s i = i := by
  unfold symE
  rw [named_none hi h1, run_none hi h2, Nat.max_self, if_pos rfl, if_neg (by rw [h3]; decide)]
theorem best_eq (s : ByteArray) (i : Nat) : bestE s i 4 = (
    let a : Int × Nat := if i < (namesE s i).2 then namesE s i else (0, i)
    let b := if a.2 < (varsE s i).2 then varsE s i else a
    let c := if b.2 < whileE digitB s i then (6, whileE digitB s i) else b
    if c.2 < symE s i then (7, symE s i) else c) := rfl
end Go.Proofs.YtmkfeanggmjhmaaGreat.L
namespace Go.Proofs.YtmkfeanggmjhmaaGreat.L
set_option linter.unusedSimpArgs false
set_option linter.unusedVariables false
open Go Go.RowKit Go.Proofs.YtmkfeanggmjhmaaGreatW.PrintWords Go.Proofs.YtmkfeanggmjhmaaGreatW.PrintLast Go.Proofs.YtmkfeanggmjhmaaGreatW.PrintMore
open Go.Proofs.YtmkfeanggmjhmaaGreat.M Go.Proofs.YtmkfeanggmjhmaaGreat.E Go.Proofs.YtmkfeanggmjhmaaGreat.PTokenWrites

theorem sign_iff (c : Int) (h0 : 0 ≤ c) (h1 : c ≤ 255) : signB c = true ↔ (33 = c ∨ 35 = c ∨ 36 = c ∨ 37 = c ∨ 38 = c ∨ 42 = c ∨ 43 = c ∨ 45 = c ∨ 47 = c ∨ 58 = c ∨ 60 = c ∨ 61 = c ∨ 62 = c ∨ 64 = c ∨ 94 = c ∨ 124 = c ∨ 126 = c) := by
  rw [sign_has c h0 h1]
  unfold hasB signT
  simp only [List.any_cons, List.any_nil, Bool.or_false, Bool.or_eq_true, decide_eq_true_eq]
  exact Iff.rfl
theorem point_iff (c : Int) (h0 : 0 ≤ c) (h1 : c ≤ 255) : pointB c = true ↔ (40 = c ∨ 41 = c ∨ 91 = c ∨ 93 = c ∨ 123 = c ∨ 125 = c ∨ 44 = c ∨ 59 = c ∨ 46 = c) := by
  rw [point_has c h0 h1]
  unfold hasB pointT
  simp only [List.any_cons, List.any_nil, Bool.or_false, Bool.or_eq_true, decide_eq_true_eq]
  exact Iff.rfl
theorem letter_iff (c : Int) : letterB c = true ↔ (97 ≤ c ∧ c ≤ 122 ∨ 65 ≤ c ∧ c ≤ 90 ∨ c = 95) := by unfold letterB; exact decide_eq_true_iff
theorem digit_iff (c : Int) : digitB c = true ↔ (48 ≤ c ∧ c ≤ 57) := by unfold digitB; exact decide_eq_true_iff
theorem sign_no {c : Int} (h0 : 0 ≤ c) (h1 : c ≤ 255) (h : ¬ (33 = c ∨ 35 = c ∨ 36 = c ∨ 37 = c ∨ 38 = c ∨ 42 = c ∨ 43 = c ∨ 45 = c ∨ 47 = c ∨ 58 = c ∨ 60 = c ∨ 61 = c ∨ 62 = c ∨ 64 = c ∨ 94 = c ∨ 124 = c ∨ 126 = c)) : signB c = false :=
  Bool.eq_false_iff.2 (fun e => h ((sign_iff c h0 h1).1 e))
theorem point_no {c : Int} (h0 : 0 ≤ c) (h1 : c ≤ 255) (h : ¬ (40 = c ∨ 41 = c ∨ 91 = c ∨ 93 = c ∨ 123 = c ∨ 125 = c ∨ 44 = c ∨ 59 = c ∨ 46 = c)) : pointB c = false :=
  Bool.eq_false_iff.2 (fun e => h ((point_iff c h0 h1).1 e))
theorem letter_no {c : Int} (h : ¬ (97 ≤ c ∧ c ≤ 122 ∨ 65 ≤ c ∧ c ≤ 90 ∨ c = 95)) : letterB c = false := Bool.eq_false_iff.2 (fun e => h ((letter_iff c).1 e))
theorem digit_no {c : Int} (h : ¬ (48 ≤ c ∧ c ≤ 57)) : digitB c = false := Bool.eq_false_iff.2 (fun e => h ((digit_iff c).1 e))

/-- a reading that is as good as the best one -/
def Good (s : ByteArray) (i : Nat) (r : Int × Nat) : Prop := r.2 = (bestE s i 4).2 ∧ (r.2 ≠ i → r.1 = (bestE s i 4).1)

def tailV (s : ByteArray) (i : Nat) : Int × Nat := if digitB (bt s i) then (6, whileE digitB s i) else if signB (bt s i) then (7, runE s i) else if pointB (bt s i) then (7, i + 1) else (7, namedE s i)
def castP (r : Int × Nat) : Int × Int := (r.1, (r.2 : Int))

theorem tail_good (s : ByteArray) (i : Nat) (hi : i < s.size) (hl : letterB (bt s i) = false) (hv : varsE s i = (0, i)) (h39 : digitB (bt s i) = true ∨ signB (bt s i) = true ∨ pointB (bt s i) = true ∨ True) : Good s i (tailV s i) := by
  have hr := bt_range s i
  unfold Good tailV
  rw [best_eq, names_none hl, hv]
  simp only [Nat.lt_irrefl, if_false]
  by_cases h1 : digitB (bt s i) = true
  · have hd := (digit_iff _).1 h1
    have hg : i < whileE digitB s i := by rw [whileE_hit _ _ _ hi h1]; exact whileE_ge _ _ _
    have hy : symE s i = i := sym_none hi (by omega) (sign_no hr.1 hr.2 (by omega)) (point_no hr.1 hr.2 (by omega))
    rw [if_pos h1, if_pos hg, hy, if_neg (by simp only; omega)]
    exact ⟨rfl, fun _ => rfl⟩
  · have hd := digits_none hi (Bool.eq_false_iff.2 h1)
    rw [if_neg h1, hd]
    simp only [Nat.lt_irrefl, if_false]
    by_cases h2 : signB (bt s i) = true
    · have hsg := (sign_iff _ hr.1 hr.2).1 h2
      have hn := named_none hi (show bt s i ≠ 92 by omega)
      have hg : i < runE s i := by unfold runE; rw [whileE_hit _ _ _ hi h2]; exact whileE_ge _ _ _
      have hy : symE s i = runE s i := by
        unfold symE
        rw [hn, if_neg (by omega)]
        omega
      rw [if_pos h2, hy, if_pos hg]
      exact ⟨rfl, fun _ => rfl⟩
    · rw [if_neg h2]
      have hrn := run_none hi (Bool.eq_false_iff.2 h2)
      by_cases h3 : pointB (bt s i) = true
      · have hpt := (point_iff _ hr.1 hr.2).1 h3
        have hn := named_none hi (show bt s i ≠ 92 by omega)
        have hy : symE s i = i + 1 := by
          unfold symE
          rw [hn, hrn, Nat.max_self, if_pos rfl, if_pos h3]
        rw [if_pos h3, hy, if_pos (by omega)]
        exact ⟨rfl, fun _ => rfl⟩
      · rw [if_neg h3]
        have hge := namedE_ge s i
        have hy : symE s i = namedE s i := by
          unfold symE
          rw [hrn]
          by_cases he : namedE s i = i
          · rw [he, Nat.max_self, if_pos rfl, if_neg h3]
          · rw [if_neg (by omega)]; omega
        rw [hy]
        by_cases he : i < namedE s i
        · rw [if_pos he]
          exact ⟨rfl, fun _ => rfl⟩
        · rw [if_neg he]
          exact ⟨by simp only; omega, fun h => absurd (by simp only; omega) h⟩

theorem bt_letter_39 {c : Int} (h : letterB c = true) : c ≠ 39 := by have := (letter_iff c).1 h; omega
theorem ident_pos {s : ByteArray} {i : Nat} (h : i < identE s i) : i < s.size ∧ letterB (bt s i) = true := by
  unfold identE at h
  split at h
  · rename_i hi
    split at h
    · rename_i hl; exact ⟨hi, hl⟩
    · omega
  · omega

theorem mark_some {s : ByteArray} {i : Nat} {m : List UInt8} (hp : preAt s i m = true) (h : i + m.length < identE s (i + m.length)) : markE s i m = some (identE s (i + m.length)) := by
  unfold markE; rw [if_pos hp, if_pos h]
theorem mark_not {s : ByteArray} {i : Nat} {m : List UInt8} (h : identE s (i + m.length) = i + m.length) : markE s i m = none := by
  unfold markE; split
  · rw [if_neg (by omega)]
  · rfl
theorem mark_pre {s : ByteArray} {i : Nat} {m : List UInt8} (h : preAt s i m = false) : markE s i m = none := by
  unfold markE; rw [if_neg (by rw [h]; decide)]

/-- where a variable stands, it is best -/
theorem vars_good (s : ByteArray) (i : Nat) (hi : i < s.size) (h39 : bt s i = 39 ∨ bt s i = 63) (k : Int) (e : Nat) (hv : varsE s i = (k, e)) (he : i < e) : Good s i (k, e) := by
  have hr := bt_range s i
  have hy : symE s i = i := sym_none hi (by omega) (sign_no hr.1 hr.2 (by omega)) (point_no hr.1 hr.2 (by omega))
  unfold Good
  rw [best_eq, names_none (letter_no (by omega)), hv]
  simp only [Nat.lt_irrefl, if_false, if_pos he]
  rw [digits_none hi (digit_no (by omega)), hy]
  simp only [if_neg (show ¬ e < i by omega), true_and, implies_true]

end Go.Proofs.YtmkfeanggmjhmaaGreat.L
namespace Go.Proofs.YtmkfeanggmjhmaaGreat.L
set_option linter.unusedSimpArgs false
set_option linter.unusedVariables false
open Go Go.RowKit Go.Proofs.YtmkfeanggmjhmaaGreatW.PrintWords Go.Proofs.YtmkfeanggmjhmaaGreatW.PrintLast Go.Proofs.YtmkfeanggmjhmaaGreatW.PrintMore
open Go.Proofs.YtmkfeanggmjhmaaGreat.M Go.Proofs.YtmkfeanggmjhmaaGreat.E Go.Proofs.YtmkfeanggmjhmaaGreat.PTokenWrites

theorem pre_drop {s : ByteArray} {i : Nat} {x : ByteArray} (hp : preAt s i x.data.toList = true) : ∃ r, s.data.toList.drop i = x.data.toList ++ r := by
  unfold preAt at hp
  obtain ⟨r, hr⟩ := List.isPrefixOf_iff_prefix.1 hp
  exact ⟨r, hr.symm⟩
theorem bt_list (s : ByteArray) (i : Nat) : bt s i = (match s.data.toList[i]? with | some b => (b.toNat : Int) | none => 0) := by
  by_cases h : i < s.size
  · have hl : i < s.data.toList.length := h
    rw [bt_nat s i h, List.getElem?_eq_getElem hl]
    rfl
  · have hl : s.data.toList.length ≤ i := Nat.le_of_not_lt h
    rw [List.getElem?_eq_none hl]
    unfold bt
    rw [Int.toNat_natCast, dif_neg h]
theorem bt_pre {s : ByteArray} {i : Nat} {x : ByteArray} (hp : preAt s i x.data.toList = true) (j : Nat) (hj : j < x.size) : bt s ((i + j : Nat) : Int) = bt x j := by
  obtain ⟨r, hr⟩ := pre_drop hp
  have hl : j < x.data.toList.length := hj
  rw [bt_list, bt_list, ← List.getElem?_drop, hr, List.getElem?_append_left hl]
theorem pre_size {s : ByteArray} {i : Nat} {x : ByteArray} (hp : preAt s i x.data.toList = true) (hi : i ≤ s.size) : i + x.size ≤ s.size := preAt_le hp hi

theorem while_shift (p : Int → Bool) {s : ByteArray} {i : Nat} {x : ByteArray} (hp : preAt s i x.data.toList = true) (hi : i ≤ s.size) : ∀ d j : Nat, x.size - j ≤ d → whileE p x j < x.size → whileE p s (i + j) = i + whileE p x j := by
  have hsz := pre_size hp hi
  intro d
  induction d with
  | zero =>
    intro j hd hlt
    have := whileE_ge p x j
    omega
  | succ d ih =>
    intro j hd hlt
    have hge := whileE_ge p x j
    have hjx : j < x.size := by omega
    have hb := bt_pre hp j hjx
    cases hc : p (bt x j) with
    | true =>
      rw [whileE_hit p x j hjx hc] at hlt ⊢
      rw [whileE_hit p s (i + j) (by omega) (by rw [hb]; exact hc)]
      exact ih (j + 1) (by omega) hlt
    | false =>
      rw [whileE_miss p x j hjx hc, whileE_miss p s (i + j) (by omega) (by rw [hb]; exact hc)]
theorem while_all (p : Int → Bool) {s : ByteArray} {i : Nat} {x : ByteArray} (hp : preAt s i x.data.toList = true) (hi : i ≤ s.size) : ∀ d j : Nat, x.size - j ≤ d → whileE p x j = x.size → i + x.size ≤ whileE p s (i + j) := by
  have hsz := pre_size hp hi
  intro d
  induction d with
  | zero =>
    intro j hd he
    have := whileE_ge p s (i + j)
    omega
  | succ d ih =>
    intro j hd he
    by_cases hj : j < x.size
    · have hb := bt_pre hp j hj
      cases hc : p (bt x j) with
      | true =>
        rw [whileE_hit p x j hj hc] at he
        rw [whileE_hit p s (i + j) (by omega) (by rw [hb]; exact hc)]
        exact ih (j + 1) (by omega) he
      | false =>
        rw [whileE_miss p x j hj hc] at he
        omega
    · have := whileE_ge p s (i + j)
      omega
theorem pre_trans {s : ByteArray} {i : Nat} {x : ByteArray} (hp : preAt s i x.data.toList = true) {m : List UInt8} (hm : preAt x 0 m = true) : preAt s i m = true := by
  unfold preAt at hp hm ⊢
  rw [List.drop_zero] at hm
  exact List.isPrefixOf_iff_prefix.2 ((List.isPrefixOf_iff_prefix.1 hm).trans (List.isPrefixOf_iff_prefix.1 hp))

theorem named_shift {s : ByteArray} {i : Nat} {x : ByteArray} (hp : preAt s i x.data.toList = true) (hi : i ≤ s.size) (h0 : 0 < x.size) (hn : namedE x 0 = x.size) : namedE s i = i + x.size ∧ bt s i = 92 := by
  have hsz := pre_size hp hi
  unfold namedE at hn
  split at hn
  · rename_i hm
    have hm2 := preAt_le hm (by omega)
    simp only [List.length_cons, List.length_nil] at hm2
    have h92 : bt s i = 92 := by
      have := preAt_first (c := 92) (t := [60]) (by omega) hm
      have hb := bt_pre hp 0 h0
      rw [Nat.add_zero] at hb
      rw [hb]; exact this
    refine ⟨?_, h92⟩
    split at hn
    · omega
    · rename_i hno
      have n1 : identE x (0 + 2) ≠ 0 + 2 := fun e => hno (.inl e)
      have n2 : identE x (0 + 2) ≠ x.size := fun e => hno (.inr (.inl e))
      have n3 : bt x (identE x (0 + 2)) = 62 := Decidable.byContradiction (fun e => hno (.inr (.inr e)))
      have hle := identE_le x (0 + 2) (by omega)
      have hge := identE_ge x (0 + 2)
      have hlt2 : 0 + 2 < identE x (0 + 2) := by omega
      obtain ⟨a1, a2⟩ := ident_pos hlt2
      have hid : identE x (0 + 2) = whileE identB x (0 + 2) := by unfold identE; rw [if_pos a1, if_pos a2]
      have hbs := bt_pre hp (0 + 2) a1
      have e0 : i + (0 + 2) = i + 2 := by omega
      rw [e0] at hbs
      have hids : identE s (i + 2) = whileE identB s (i + 2) := by unfold identE; rw [if_pos (by omega), if_pos (by rw [hbs]; exact a2)]
      have hsh := while_shift identB hp hi _ (0 + 2) (Nat.le_refl _) (by rw [← hid]; omega)
      rw [e0, ← hids, ← hid] at hsh
      have hb2 := bt_pre hp (identE x (0 + 2)) (by omega)
      unfold namedE
      rw [if_pos (pre_trans hp hm), hsh, if_neg]
      · omega
      · rintro (h | h | h)
        · omega
        · omega
        · rw [hb2] at h
          exact h n3
  · omega

/-- a keyword at a place, no shorter than the best reading, that begins with no letter, is the best reading, and that is a symbol -/
theorem kw_sym {s : ByteArray} {i : Nat} (hi : i < s.size) {x : ByteArray} (hk : kwB x = true) (hp : preAt s i x.data.toList = true) (hl : letterB (bt x ((0 : Nat) : Int)) = false) {r : Int × Nat} (hg : Good s i r) (hle : r.2 ≤ i + x.size) : r = (7, i + x.size) := by
  have hsz := pre_size hp (by omega)
  unfold kwB at hk
  simp only [Bool.and_eq_true, Bool.not_eq_true', Bool.or_eq_false_iff, decide_eq_false_iff_not, Bool.or_eq_true, decide_eq_true_eq] at hk
  obtain ⟨⟨⟨⟨h0, h40⟩, hop⟩, hcl⟩, hk⟩ := hk
  have h0' : 0 < x.size := by omega
  have hb := bt_pre hp 0 h0'
  rw [Nat.add_zero] at hb
  have hls : letterB (bt s i) = false := by rw [hb]; exact hl
  have hr := bt_range s i
  have key : bestE s i 4 = (7, i + x.size) ∨ (bestE s i 4).1 = 7 ∧ i + x.size ≤ (bestE s i 4).2 := by
    rcases hk with ((hk | hk) | hk) | ⟨hk, hk2⟩
    · have hi0 : identE x 0 = 0 := ident_none hl
      omega
    · -- a run of signs
      have hsg : signB (bt s i) = true := by
        rw [hb]
        cases hc : signB (bt x 0) with
        | true => rfl
        | false =>
          have := run_none h0' hc
          unfold runE at hk this
          rw [this] at hk
          omega
      have hal := while_all signB hp (by omega) _ 0 (Nat.le_refl _) hk
      rw [Nat.add_zero] at hal
      have hsi := (sign_iff _ hr.1 hr.2).1 hsg
      have hy : symE s i = runE s i := by
        unfold symE
        rw [named_none hi (by omega), if_neg (by unfold runE; omega)]
        unfold runE
        omega
      right
      rw [best_eq, names_none hls, vars_none hi (by omega) (by omega), digits_none hi (digit_no (by omega)), hy]
      simp only [Nat.lt_irrefl, if_false]
      rw [if_pos (by unfold runE; omega)]
      exact ⟨rfl, hal⟩
    · -- a named symbol
      obtain ⟨hn, h92⟩ := named_shift hp (by omega) h0' hk
      have hy : symE s i = i + x.size := by
        unfold symE
        rw [hn, run_none hi (sign_no hr.1 hr.2 (by omega)), if_neg (by omega)]
        omega
      left
      rw [best_eq, names_none hls, vars_none hi (by omega) (by omega), digits_none hi (digit_no (by omega)), hy]
      simp only [Nat.lt_irrefl, if_false]
      rw [if_pos (by omega)]
    · -- a point
      have hpt : pointB (bt s i) = true := by rw [hb]; exact hk2
      have hpi := (point_iff _ hr.1 hr.2).1 hpt
      have hy : symE s i = i + x.size := by
        unfold symE
        rw [named_none hi (by omega), run_none hi (sign_no hr.1 hr.2 (by omega)), Nat.max_self, if_pos rfl, if_pos hpt, hk]
      left
      rw [best_eq, names_none hls, vars_none hi (by omega) (by omega), digits_none hi (digit_no (by omega)), hy]
      simp only [Nat.lt_irrefl, if_false]
      rw [if_pos (by omega)]
  obtain ⟨g1, g2⟩ := hg
  obtain ⟨rk, re⟩ := r
  simp only at g1 g2 hle
  rcases key with key | ⟨k1, k2⟩
  · rw [key] at g1 g2
    simp only at g1 g2
    subst g1
    rw [g2 (by omega)]
  · have : re = i + x.size := by omega
    subst this
    rw [g2 (by omega), k1]

/-- where a letter stands, the best reading is a name -/
theorem good_letter {s : ByteArray} {i : Nat} (hi : i < s.size) (hl : letterB (bt s i) = true) {r : Int × Nat} (hg : Good s i r) : i < r.2 ∧ (r.1 = 1 ∨ r.1 = 2) := by
  have hr := bt_range s i
  have hli := (letter_iff _).1 hl
  have a := ident_some hi hl
  have hy : symE s i = i := sym_none hi (by omega) (sign_no hr.1 hr.2 (by omega)) (point_no hr.1 hr.2 (by omega))
  have hw : namesE s i = wordE s 1 (identE s i) := by unfold namesE; rw [if_pos a]
  have hle := identE_le s i (by omega)
  have h2 : i < (namesE s i).2 := by
    rw [hw]
    have := wordF_le s (s.size - identE s i) 1 (identE s i) hle
    unfold wordE
    omega
  have hkind : ∀ d k e, (k = 1 ∨ k = 2) → (wordF s d k e).1 = 1 ∨ (wordF s d k e).1 = 2 := by
    intro d
    induction d with
    | zero => intro k e h; exact h
    | succ d ih =>
      intro k e h
      unfold wordF
      split
      · split
        · split
          · exact h
          · exact ih 2 _ (.inr rfl)
        · exact h
      · exact h
  have h1 : (namesE s i).1 = 1 ∨ (namesE s i).1 = 2 := by rw [hw]; exact hkind _ 1 _ (.inl rfl)
  have hbest : bestE s i 4 = namesE s i := by
    rw [best_eq, vars_none hi (by omega) (by omega), digits_none hi (digit_no (by omega)), hy]
    simp only [if_pos h2, if_neg (show ¬ (namesE s i).2 < i by omega)]
  obtain ⟨g1, g2⟩ := hg
  rw [hbest] at g1 g2
  have h3 : i < r.2 := by omega
  exact ⟨h3, by rw [g2 (by omega)]; exact h1⟩
end Go.Proofs.YtmkfeanggmjhmaaGreat.L
namespace Go.Proofs.YtmkfeanggmjhmaaGreat.L
set_option linter.unusedSimpArgs false
set_option linter.unusedVariables false
open Go Go.RowKit Go.Proofs.YtmkfeanggmjhmaaGreatW.PrintWords Go.Proofs.YtmkfeanggmjhmaaGreatW.PrintLast Go.Proofs.YtmkfeanggmjhmaaGreatW.PrintMore
open Go.Proofs.YtmkfeanggmjhmaaGreat.M Go.Proofs.YtmkfeanggmjhmaaGreat.E Go.Proofs.YtmkfeanggmjhmaaGreat.PTokenWrites

/-- the keywords as a set -/
def kwL (l : List ByteArray) (t : List UInt8) : Bool := l.any (fun x => t == x.data.toList)
theorem ext_pre {s : ByteArray} {i e : Nat} (hie : i ≤ e) (he : e ≤ s.size) {x : ByteArray} (h : (s.extract i e).data.toList = x.data.toList) : preAt s i x.data.toList = true ∧ i + x.size = e := by
  have e1 : (s.extract i e).data.toList = (s.data.toList.drop i).take (e - i) := by
    rw [ByteArray.data_extract, Array.toList_extract, List.extract_eq_take_drop]
  rw [e1] at h
  have hl : x.size = e - i := by
    have := congrArg List.length h
    rw [List.length_take, List.length_drop] at this
    have a : s.data.toList.length = s.size := rfl
    have b : x.data.toList.length = x.size := rfl
    omega
  refine ⟨?_, by omega⟩
  unfold preAt
  rw [← h]
  exact List.isPrefixOf_iff_prefix.2 (List.take_prefix _ _)
theorem pre_ext {s : ByteArray} {i e : Nat} (he : e ≤ s.size) {x : ByteArray} (hp : preAt s i x.data.toList = true) (h : i + x.size = e) : (s.extract i e).data.toList = x.data.toList := by
  have e1 : (s.extract i e).data.toList = (s.data.toList.drop i).take (e - i) := by
    rw [ByteArray.data_extract, Array.toList_extract, List.extract_eq_take_drop]
  rw [e1]
  obtain ⟨r, hr⟩ := pre_drop hp
  rw [hr]
  have b : x.data.toList.length = x.size := rfl
  rw [List.take_append_of_le_length (by omega), List.take_of_length_le (by omega)]

def oneP (i : Nat) : Except Int ((Int × ByteArray) × Nat) → Int × ByteArray × Int × Int × Int
  | .ok ((k, t), e) => (k, t, i, e, 0)
  | .error c => (0, ⟨#[]⟩, 0, i, c)

def kw10 (l : List ByteArray) (s : ByteArray) (i : Nat) (r : Int × Nat) : Int := if (r.1 = 1 ∨ r.1 = 7) ∧ kwL l (s.extract i r.2).data.toList = true then 10 else r.1
def endP (s : ByteArray) (i : Nat) (k : Int) (e : Nat) : Int × ByteArray × Int × Int × Int :=
  if e = i then (0, ⟨#[]⟩, 0, i, 160) else if (s.extract i e).data.toList = closed then (0, ⟨#[]⟩, 0, i, 160) else (k, s.extract i e, i, e, 0)

theorem kw_step (s : ByteArray) (i : Nat) (hi : i < s.size) (r : Int × Nat) (hg : Good s i r) (hie : i ≤ r.2) (hes : r.2 ≤ s.size) (a : List ByteArray) (x : ByteArray) :
    kw10 (a ++ [x]) s i r = if (r.1 = 1 ∨ r.1 = 7) ∧ (s.extract i r.2).data.toList = x.data.toList then 10 else kw10 a s i r := by
  unfold kw10 kwL
  rw [List.any_append]
  simp only [List.any_cons, List.any_nil, Bool.or_false, Bool.or_eq_true, beq_iff_eq]
  by_cases h1 : r.1 = 1 ∨ r.1 = 7
  · by_cases h2 : (s.extract i r.2).data.toList = x.data.toList
    · simp only [h1, h2, or_true, and_self, if_true]
    · simp only [h1, h2, or_false, true_and, if_false]
  · simp only [h1, false_and, if_false]

def s49 (x : Tok) : S37 := ⟨x.kind, x.text, x.at_⟩
def s36 (x : Tok) : S30 := ⟨x.kind, x.text, x.at_⟩
def scP : List Tok × Option (Nat × Int) → List S37 × Int × Int
  | (xs, none) => (xs.map s49, 0, 0)
  | (_, some (q, c)) => ([], q, c)
theorem codes_blank : ∀ p : Except Nat Nat, (blP p).2 = 0 ↔ ∃ j, p = .ok j := by
  intro p
  cases p with
  | ok j => exact ⟨fun _ => ⟨j, rfl⟩, fun _ => rfl⟩
  | error q => exact ⟨fun h => absurd h (show (162 : Int) ≠ 0 by decide), fun ⟨j, h⟩ => by cases h⟩

theorem oneE_code {kw : List UInt8 → Bool} {s : ByteArray} {i : Nat} {c : Int} (h : oneE kw s i = .error c) : c ≠ 0 := by
  unfold oneE at h
  split at h
  · split at h
    · cases h
    · cases h; decide
  · split at h
    · split at h
      · cases h
      · cases h; decide
    · split at h
      · cases h; decide
      · cases h
theorem check_kw : ∀ (l met : List ByteArray), checkL met l = 0 → ∀ x ∈ l, kwB x = true := by
  intro l
  induction l with
  | nil => intro met _ x hx; cases hx
  | cons a r ih =>
    intro met h x hx
    unfold checkL at h
    by_cases ha : kwB a = true
    · rw [if_pos ha] at h
      split at h
      · exact absurd h (by decide)
      · rcases List.mem_cons.1 hx with rfl | hx
        · exact ha
        · exact ih _ h x hx
    · rw [if_neg ha] at h
      exact absurd h (by decide)
theorem checkE_kw {l : List ByteArray} (h : checkE l = 0) : l.length ≤ 500 ∧ ∀ x ∈ l, kwB x = true := by
  unfold checkE at h
  split at h
  · exact absurd h (by decide)
  · exact ⟨by omega, check_kw l [] h⟩

def scanRef (l : List ByteArray) (s : ByteArray) : List Tok × Nat × Int :=
  if checkE l ≠ 0 then ([], 0, checkE l) else if 40000 < s.size then ([], 0, 7) else
    match scanE (kwL l) s with
    | (xs, none) => (xs, 0, 0)
    | (_, some (q, c)) => ([], q, c)
theorem scanF_len (kw : List UInt8 → Bool) (s : ByteArray) : ∀ d i pre, i ≤ s.size → (scanF kw s d i pre).1.length ≤ pre.length + (s.size - i) := by
  intro d
  induction d with
  | zero => intro i pre hi; simp only [scanF]; omega
  | succ d ih =>
    intro i pre hi
    unfold scanF
    split
    · rename_i hlt
      split
      · simp only; omega
      · rename_i k t e ho
        have h1 := oneE_lt hlt ho
        simp only at h1
        split
        · simp only [List.length_append, List.length_cons, List.length_nil]; omega
        · rename_i j hb
          have h2 := blanksE_le h1.2 hb
          have := ih j (pre ++ [⟨k, t, i⟩]) h2.2
          simp only [List.length_append, List.length_cons, List.length_nil] at this
          omega
    · simp only; omega
theorem scanRef_len (l : List ByteArray) (s : ByteArray) : (scanRef l s).1.length ≤ s.size := by
  unfold scanRef
  split
  · simp
  · split
    · simp
    · have h : (scanE (kwL l) s).1.length ≤ s.size := by
        unfold scanE
        split
        · simp
        · rename_i j hb
          have h2 := blanksE_le (by omega) hb
          have := scanF_len (kwL l) s (s.size - j + 1) j [] h2.2
          unfold scanFrom
          simp only [List.length_nil] at this
          omega
      split
      · rename_i xs he
        rw [he] at h
        exact h
      · simp
end Go.Proofs.YtmkfeanggmjhmaaGreat.L
