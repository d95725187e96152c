/- Reading a part of a text: what is read inside a beginning of a text is what is read in the text.  It names no program. -/
import Derived.Test.YtmkfeanggmjhmaaGreatM
namespace Go.Proofs.YtmkfeanggmjhmaaGreat.Q
set_option linter.unusedSimpArgs false
set_option linter.unusedVariables false
open Go Go.RowKit Go.Proofs.YtmkfeanggmjhmaaGreatW.PrintWords Go.Proofs.YtmkfeanggmjhmaaGreat.M

theorem bt_opt (s : ByteArray) (i : Nat) : bt s (i : Int) = ((s.data.toList[i]?).map (fun x => (x.toNat : Int))).getD 0 := by
  unfold bt
  by_cases h : i < s.size
  · have h' : i < s.data.toList.length := h
    rw [dif_pos (by simpa using h), List.getElem?_eq_getElem h']
    rfl
  · have h' : s.data.toList.length ≤ i := by have : s.data.toList.length = s.size := rfl; omega
    rw [dif_neg (by simpa using h), List.getElem?_eq_none h']
    rfl

/-- a is a beginning of s -/
structure Pre (a s : ByteArray) : Prop where
  le : a.size ≤ s.size
  bt : ∀ i : Nat, i < a.size → bt s (i : Int) = bt a (i : Int)
  at_ : ∀ i t, i + t.length ≤ a.size → preAt s i t = preAt a i t
  up : ∀ i t, preAt a i t = true → preAt s i t = true
  ext : ∀ i j, j ≤ a.size → s.extract i j = a.extract i j
theorem size_len (a : ByteArray) : a.data.toList.length = a.size := rfl
theorem pre_short {t x r : List UInt8} (hl : t.length ≤ x.length) (h : t <+: x ++ r) : t <+: x := List.prefix_of_prefix_length_le h (List.prefix_append x r) hl
theorem pre_cross {c : UInt8} {y : List UInt8} : ∀ (t x : List UInt8), t <+: x ++ c :: y → c ∉ t → t <+: x
  | [], x, _, _ => List.nil_prefix
  | u :: t, [], h, hc => by
    rw [List.nil_append] at h
    have := (List.cons_prefix_cons.1 h).1
    subst this
    simp at hc
  | u :: t, v :: x, h, hc => by
    rw [List.cons_append] at h
    have h2 := List.cons_prefix_cons.1 h
    exact List.cons_prefix_cons.2 ⟨h2.1, pre_cross t x h2.2 (fun hm => hc (List.mem_cons_of_mem _ hm))⟩
theorem bool_eq {a b : Bool} (h : a = true ↔ b = true) : a = b := by cases a <;> cases b <;> simp_all
theorem ext_list (s : ByteArray) (i j : Nat) : (s.extract i j).data.toList = (s.data.toList.drop i).take (j - i) := by
  rw [ByteArray.data_extract, Array.toList_extract, List.extract_eq_take_drop]
theorem ba_ext {x y : ByteArray} (h : x.data.toList = y.data.toList) : x = y := by
  apply ByteArray.ext
  exact Array.ext' h
theorem Pre.mk' {a s : ByteArray} {r : List UInt8} (h : s.data.toList = a.data.toList ++ r) : Pre a s where
  le := by rw [← size_len, ← size_len, h, List.length_append]; omega
  bt := fun i hi => by rw [bt_opt, bt_opt, h, List.getElem?_append_left (by rw [size_len]; exact hi)]
  at_ := fun i t hi => by
    apply bool_eq
    unfold preAt
    rw [List.isPrefixOf_iff_prefix, List.isPrefixOf_iff_prefix, h, List.drop_append_of_le_length (by rw [size_len]; omega)]
    exact ⟨fun hp => pre_short (by rw [List.length_drop, size_len]; omega) hp, fun hp => hp.trans (List.prefix_append _ _)⟩
  up := fun i t hp => by
    unfold preAt at *
    rw [List.isPrefixOf_iff_prefix] at *
    rw [h, List.drop_append]
    exact hp.trans (List.prefix_append _ _)
  ext := fun i j hj => by
    apply ba_ext
    rw [ext_list, ext_list, h]
    by_cases hi : i ≤ j
    · rw [List.drop_append_of_le_length (by rw [size_len]; omega), List.take_append_of_le_length (by rw [List.length_drop, size_len]; omega)]
    · rw [show j - i = 0 by omega, List.take_zero, List.take_zero]

theorem while_stop (p : Int → Bool) (s : ByteArray) : ∀ d i, s.size - i ≤ d → whileE p s i < s.size → p (bt s (whileE p s i : Int)) = false
  | 0, i, hd, h => by
    have := whileE_ge p s i
    omega
  | d + 1, i, hd, h => by
    have hg := whileE_ge p s i
    have hi : i < s.size := by omega
    cases hp : p (bt s (i : Int)) with
    | true =>
      rw [whileE_hit p s i hi hp] at h ⊢
      exact while_stop p s d (i + 1) (by omega) h
    | false => rw [whileE_miss p s i hi hp]; exact hp
variable {a s : ByteArray}
theorem whileT (H : Pre a s) (p : Int → Bool) : ∀ d i, a.size - i ≤ d → i ≤ a.size → whileE p a i = min (whileE p s i) a.size
  | 0, i, hd, hi => by
    obtain rfl : i = a.size := by omega
    rw [whileE_end p a _ (Nat.le_refl _)]
    have := whileE_ge p s a.size
    omega
  | d + 1, i, hd, hi => by
    have hle := H.le
    by_cases hlt : i < a.size
    · cases hp : p (bt a (i : Int)) with
      | true => rw [whileE_hit p a i hlt hp, whileE_hit p s i (by omega) (by rw [H.bt i hlt]; exact hp)]; exact whileT H p d (i + 1) (by omega) (by omega)
      | false => rw [whileE_miss p a i hlt hp, whileE_miss p s i (by omega) (by rw [H.bt i hlt]; exact hp)]; omega
    · obtain rfl : i = a.size := by omega
      rw [whileE_end p a _ (Nat.le_refl _)]
      have := whileE_ge p s a.size
      omega
theorem while_min (H : Pre a s) (p : Int → Bool) {i : Nat} (hi : i ≤ a.size) : whileE p a i = min (whileE p s i) a.size := whileT H p _ i (Nat.le_refl _) hi
theorem ident_min (H : Pre a s) {i : Nat} (hi : i ≤ a.size) : identE a i = min (identE s i) a.size := by
  have hle := H.le
  by_cases hlt : i < a.size
  · unfold identE
    rw [if_pos hlt, if_pos (show i < s.size by omega), H.bt i hlt]
    cases hl : letterB (bt a (i : Int)) with
    | true => rw [if_pos rfl, if_pos rfl]; exact while_min H _ hi
    | false => rw [if_neg Bool.false_ne_true, if_neg Bool.false_ne_true]; omega
  · have := identE_ge s i
    have e : identE a i = i := by unfold identE; rw [if_neg hlt]
    omega
theorem namedT (H : Pre a s) {i : Nat} (hi : i ≤ a.size) (h : namedE s i ≤ a.size) : namedE a i = namedE s i := by
  have hle := H.le
  by_cases h2 : i + 2 ≤ a.size
  · have e := ident_min H h2
    have hp := H.at_ i [92, 60] h2
    unfold namedE at *
    rw [← hp]
    split
    · rename_i hpt
      rw [if_pos hpt] at h
      by_cases hf : identE s (i + 2) = i + 2 ∨ identE s (i + 2) = s.size ∨ bt s (identE s (i + 2) : Int) ≠ 62
      · rw [if_pos hf]
        rw [if_pos]
        rw [e]
        by_cases hn : identE s (i + 2) < a.size
        · rw [Nat.min_eq_left (by omega)]
          rcases hf with h1 | h1 | h1
          · exact .inl h1
          · omega
          · exact .inr (.inr (by rw [← H.bt _ hn]; exact h1))
        · rw [Nat.min_eq_right (by omega)]
          exact .inr (.inl rfl)
      · rw [if_neg hf] at h ⊢
        have hm : min (identE s (i + 2)) a.size = identE s (i + 2) := by omega
        rw [e, hm, if_neg]
        rintro (h1 | h1 | h1)
        · exact hf (.inl h1)
        · omega
        · exact hf (.inr (.inr (by rw [H.bt _ (by omega)]; exact h1)))
    · rfl
  · have ha : preAt a i [92, 60] = false := by
      rw [Bool.eq_false_iff]
      intro hp
      have := preAt_le hp hi
      simp at this
      omega
    have hs : namedE s i = i := by
      unfold namedE at *
      split
      · rename_i hp
        rw [if_pos hp] at h
        split
        · rfl
        · rename_i hf
          rw [if_neg hf] at h
          have := identE_ge s (i + 2)
          omega
      · rfl
    rw [hs]
    unfold namedE
    rw [ha]
    rfl
theorem stepT (H : Pre a s) {b e : List UInt8} {i : Nat} (h : i + stepW s b e i ≤ a.size) : stepW a b e i = stepW s b e i ∧ stepD a b e i = stepD s b e i := by
  have key : ∀ t, i + t.length ≤ a.size ∨ preAt s i t = false → preAt a i t = preAt s i t := by
    intro t ht
    rcases ht with h1 | h1
    · exact (H.at_ i t h1).symm
    · rw [h1, Bool.eq_false_iff]
      intro hp
      rw [H.up i t hp] at h1
      cases h1
  unfold stepW stepD at *
  cases hb : preAt s i b with
  | true =>
    rw [hb, if_pos rfl] at h
    rw [key b (.inl h), hb]
    exact ⟨rfl, rfl⟩
  | false =>
    rw [hb, if_neg Bool.false_ne_true] at h
    rw [key b (.inr hb), hb]
    cases he : preAt s i e with
    | true =>
      rw [he, if_pos rfl] at h
      rw [key e (.inl h), he]
      exact ⟨rfl, rfl⟩
    | false =>
      rw [key e (.inr he), he]
      exact ⟨rfl, rfl⟩
theorem nestT (H : Pre a s) {b e : List UInt8} (hb : 0 < b.length) (he : 0 < e.length) : ∀ d i deep j, a.size - i ≤ d → nestE s b e i deep = some j → j ≤ a.size → nestE a b e i deep = some j := by
  intro d
  have hle := H.le
  induction d with
  | zero =>
    intro i deep j hd h hj
    by_cases hi : i < s.size
    · have := nestE_lt hb he (Nat.le_of_lt hi) h
      omega
    · rw [nestE_end s b e i deep (by omega)] at h
      cases h
  | succ d ih =>
    intro i deep j hd h hj
    by_cases hi : i < s.size
    · have hij := nestE_lt hb he (Nat.le_of_lt hi) h
      have hw := stepW_le s b e i hi
      have hp := stepW_pos s b e i hb he
      by_cases h0 : deep + stepD s b e i = 0
      · rw [nestE_stop s b e i deep hi h0] at h
        cases h
        obtain ⟨e1, e2⟩ := stepT H hj
        rw [nestE_stop a b e i deep (by omega) (by rw [e2]; exact h0), e1]
      · rw [nestE_step s b e hb he i deep hi h0] at h
        have hlt := nestE_le hw h
        obtain ⟨e1, e2⟩ := stepT H (b := b) (e := e) (i := i) (by omega)
        rw [nestE_step a b e hb he i deep (by omega) (by rw [e2]; exact h0), e1, e2]
        exact ih _ _ _ (by omega) h hj
    · rw [nestE_end s b e i deep (by omega)] at h
      cases h
theorem textT (H : Pre a s) : ∀ d i out r, a.size - i ≤ d → textE s i out = some r → r.2 ≤ a.size → textE a i out = some r := by
  intro d
  have hle := H.le
  induction d with
  | zero =>
    intro i out r hd h hr
    have := textE_lt h
    omega
  | succ d ih =>
    intro i out r hd h hr
    have hlt := textE_lt h
    have hi : i < a.size := by omega
    rw [textE_eq s i out (by omega), H.bt i hi] at h
    rw [textE_eq a i out hi]
    split at h
    · cases h
    · rename_i h1
      rw [if_neg h1]
      split at h
      · rename_i h2
        rw [if_pos h2]
        exact h
      · rename_i h2
        rw [if_neg h2]
        split at h
        · rename_i h3
          rw [if_pos h3]
          split at h
          · rename_i h4
            have hi1 : i + 1 < a.size := by
              split at h
              · have := textE_lt h; omega
              · split at h
                · have := textE_lt h; omega
                · cases h
            rw [if_pos hi1]
            rw [H.bt (i + 1) hi1] at h
            split at h
            · rename_i h5
              rw [if_pos h5]
              exact ih _ _ _ (by omega) h hr
            · rename_i h5
              rw [if_neg h5]
              split at h
              · rename_i h6
                rw [if_pos h6]
                exact ih _ _ _ (by omega) h hr
              · cases h
          · cases h
        · rename_i h3
          rw [if_neg h3]
          exact ih _ _ _ (by omega) h hr
theorem indexT (H : Pre a s) {i : Nat} (hi : i ≤ a.size) (h : indexE s i ≤ a.size) : indexE a i = indexE s i := by
  have hle := H.le
  unfold indexE at *
  by_cases hlt : i < a.size
  · rw [if_pos (show i < s.size by omega), H.bt i hlt] at h ⊢
    rw [if_pos hlt] at *
    split
    · rename_i hd
      rw [if_pos hd] at h
      rw [while_min H _ (show i + 1 ≤ a.size by omega)]
      have := whileE_ge digitB s (i + 1)
      by_cases hw : i + 1 < whileE digitB s (i + 1)
      · rw [if_pos hw] at h ⊢
        rw [if_pos (by omega)]
        omega
      · rw [if_neg hw, if_neg (by omega)]
    · rfl
  · rw [if_neg hlt]
    by_cases hs : i < s.size
    · rw [if_pos hs] at h ⊢
      split
      · rename_i hd
        rw [if_pos hd] at h
        split
        · rename_i hw
          rw [if_pos hw] at h
          omega
        · rfl
      · rfl
    · rw [if_neg hs]
theorem wordT (H : Pre a s) : ∀ d k e, a.size - e ≤ d → e ≤ a.size → (wordE s k e).2 ≤ a.size → wordE a k e = wordE s k e := by
  intro d
  have hle := H.le
  induction d with
  | zero =>
    intro k e hd he h
    obtain rfl : e = a.size := by omega
    rw [wordE_end a k _ (Nat.le_refl _)]
    by_cases hs : a.size < s.size
    · by_cases hb : bt s (a.size : Int) = 46
      · by_cases hi : identE s (a.size + 1) = a.size + 1
        · rw [wordE_stop s k _ hs hi]
        · rw [wordE_step s k _ hs hb hi] at h
          have h1 := identE_ge s (a.size + 1)
          have h2 := identE_le s (a.size + 1) (by omega)
          have h3 := wordF_le s (s.size - identE s (a.size + 1)) 2 _ h2
          unfold wordE at h
          omega
      · rw [wordE_dot s k _ hs hb]
    · rw [wordE_end s k _ (by omega)]
  | succ d ih =>
    intro k e hd he h
    by_cases hlt : e < a.size
    · by_cases hb : bt a (e : Int) = 46
      · have hbs : bt s (e : Int) = 46 := by rw [H.bt e hlt]; exact hb
        have hm := ident_min H (show e + 1 ≤ a.size by omega)
        have hg := identE_ge s (e + 1)
        by_cases hi : identE s (e + 1) = e + 1
        · rw [wordE_stop s k e (by omega) hi, wordE_stop a k e hlt (by omega)]
        · rw [wordE_step s k e (by omega) hbs hi] at h ⊢
          have h2 := identE_le s (e + 1) (by omega)
          have h3 := wordF_le s (s.size - identE s (e + 1)) 2 _ h2
          have h4 : identE s (e + 1) ≤ a.size := by unfold wordE at h; omega
          rw [wordE_step a k e hlt hb (by omega), hm, Nat.min_eq_left h4]
          exact ih _ _ (by omega) h4 h
      · rw [wordE_dot a k e hlt hb, wordE_dot s k e (by omega) (by rw [H.bt e hlt]; exact hb)]
    · exact (by
        obtain rfl : e = a.size := by omega
        exact (ih k _ (by omega) he h))
theorem namesT (H : Pre a s) {i : Nat} (hi : i ≤ a.size) (h : (namesE s i).2 ≤ a.size) : namesE a i = namesE s i := by
  have hle := H.le
  have hm := ident_min H hi
  have hg := identE_ge s i
  have hl := identE_le s i (by omega)
  have h4 : identE s i ≤ a.size := by
    unfold namesE at h
    split at h
    · have h3 := wordF_le s (s.size - identE s i) 1 _ hl
      unfold wordE at h
      omega
    · exact h
  rw [Nat.min_eq_left h4] at hm
  unfold namesE at *
  rw [hm]
  split
  · rename_i hlt
    rw [if_pos hlt] at h
    exact wordT H _ _ _ (Nat.le_refl _) h4 h
  · rfl
theorem markT (H : Pre a s) {i : Nat} {m : List UInt8} (hi : i ≤ a.size) (h : ∀ e, markE s i m = some e → e ≤ a.size) : markE a i m = markE s i m := by
  have hle := H.le
  by_cases h2 : i + m.length ≤ a.size
  · have hm := ident_min H h2
    have hg := identE_ge s (i + m.length)
    unfold markE at *
    rw [← H.at_ i m h2]
    split
    · rename_i hp
      rw [if_pos hp] at h
      by_cases hlt : i + m.length < identE s (i + m.length)
      · have := h _ (if_pos hlt)
        rw [if_pos hlt, if_pos (by omega), hm, Nat.min_eq_left this]
      · rw [if_neg hlt, if_neg (by omega)]
    · rfl
  · have ha : markE a i m = none := by
      unfold markE
      rw [if_neg]
      intro hp
      have := preAt_le hp hi
      omega
    rw [ha]
    cases hs : markE s i m with
    | none => rfl
    | some e =>
      have h1 := h e hs
      unfold markE at hs
      split at hs
      · split at hs
        · cases hs
          omega
        · cases hs
      · cases hs
theorem markE_end {s : ByteArray} {i : Nat} {m : List UInt8} {e : Nat} (h : markE s i m = some e) (hi : i ≤ s.size) : e ≤ s.size := (markE_le hi h).2
theorem varsT (H : Pre a s) {i : Nat} (hi : i ≤ a.size) (h : (varsE s i).2 ≤ a.size) : varsE a i = varsE s i := by
  have hle := H.le
  have key : ∀ m, (∀ e, markE s i m = some e → e ≤ a.size) → markE a i m = markE s i m := fun m hm => markT H hi hm
  unfold varsE at *
  have ix : ∀ e, e ≤ s.size → e ≤ indexE s e := fun e he => (indexE_le s e he).1
  cases h1 : markE s i [39] with
  | some e =>
    rw [h1] at h
    rw [key _ (fun e' h' => by rw [h1] at h'; cases h'; exact h), h1]
  | none =>
    rw [h1] at h
    rw [key _ (fun e' h' => by rw [h1] at h'; cases h'), h1]
    cases h2 : markE s i [63, 39] with
    | some e =>
      rw [h2] at h
      have he : e ≤ a.size := Nat.le_trans (ix e (markE_end h2 (by omega))) h
      rw [key _ (fun e' h' => by rw [h2] at h'; cases h'; exact he), h2]
      simp only
      rw [indexT H he h]
    | none =>
      rw [h2] at h
      rw [key _ (fun e' h' => by rw [h2] at h'; cases h'), h2]
      cases h3 : markE s i [63] with
      | some e =>
        rw [h3] at h
        have he : e ≤ a.size := Nat.le_trans (ix e (markE_end h3 (by omega))) h
        rw [key _ (fun e' h' => by rw [h3] at h'; cases h'; exact he), h3]
        simp only
        rw [indexT H he h]
      | none =>
        rw [key _ (fun e' h' => by rw [h3] at h'; cases h'), h3]
theorem symT (H : Pre a s) {i : Nat} (hi : i < a.size) (h : symE s i ≤ a.size) : symE a i = symE s i := by
  have hle := H.le
  have h1 := namedE_ge s i
  have h2 := whileE_ge signB s i
  have hm : max (namedE s i) (runE s i) ≤ a.size := by
    unfold symE at h
    split at h
    · rename_i he; omega
    · exact h
  have hr : runE a i = runE s i := by
    unfold runE at *
    rw [while_min H _ (by omega), Nat.min_eq_left (by omega)]
  unfold symE at *
  rw [namedT H (by omega) (by omega), hr, H.bt i hi]
theorem readT (H : Pre a s) {i : Nat} (hi : i < a.size) (j : Nat) (h : (readE s i j).2 ≤ a.size) : readE a i j = readE s i j := by
  match j with
  | 0 => exact namesT H (by omega) h
  | 1 => exact varsT H (by omega) h
  | 2 =>
    change whileE digitB s i ≤ a.size at h
    show ((6 : Int), whileE digitB a i) = (6, whileE digitB s i)
    rw [while_min H _ (by omega), Nat.min_eq_left h]
  | _ + 3 =>
    change symE s i ≤ a.size at h
    show ((7 : Int), symE a i) = (7, symE s i)
    rw [symT H hi h]
theorem best_up (s : ByteArray) (i : Nat) : ∀ j, (bestE s i j).2 ≤ (bestE s i (j + 1)).2 ∧ (readE s i j).2 ≤ (bestE s i (j + 1)).2 := by
  intro j
  rw [bestE]
  split <;> omega
theorem bestT (H : Pre a s) {i : Nat} (hi : i < a.size) : ∀ j, (bestE s i j).2 ≤ a.size → bestE a i j = bestE s i j := by
  intro j
  induction j with
  | zero => intro _; rfl
  | succ j ih =>
    intro h
    obtain ⟨h1, h2⟩ := best_up s i j
    rw [bestE, bestE, ih (by omega), readT H hi j (by omega)]
theorem oneT (H : Pre a s) {kw : List UInt8 → Bool} {i : Nat} (hi : i < a.size) {t : Int × ByteArray} {e : Nat} (h : oneE kw s i = .ok (t, e)) (he : e ≤ a.size) : oneE kw a i = .ok (t, e) := by
  have hle := H.le
  unfold oneE at *
  rw [H.bt i hi] at h
  split at h
  · rename_i h1
    rw [if_pos h1]
    cases ht : textE s (i + 1) [] with
    | none => rw [ht] at h; cases h
    | some r =>
      obtain ⟨l, j⟩ := r
      rw [ht] at h
      simp only [Except.ok.injEq, Prod.mk.injEq] at h
      obtain ⟨rfl, rfl⟩ := h
      rw [textT H _ _ _ _ (Nat.le_refl _) ht he]
  · rename_i h1
    rw [if_neg h1]
    cases hp : preAt s i opened with
    | true =>
      rw [hp, if_pos rfl] at h
      cases ht : nestE s opened closed i 0 with
      | none => rw [ht] at h; cases h
      | some j =>
        rw [ht] at h
        simp only [Except.ok.injEq, Prod.mk.injEq] at h
        obtain ⟨rfl, rfl⟩ := h
        have hb := nestE_both (Nat.le_of_lt (show i < s.size by omega)) hp ht
        rw [← H.at_ i opened (by omega), hp, if_pos rfl, nestT H (by decide) (by decide) _ _ _ _ (Nat.le_refl _) ht he]
        simp only
        rw [H.ext _ _ (by omega)]
    | false =>
      have hpa : preAt a i opened = false := by
        rw [Bool.eq_false_iff]
        intro h'
        rw [H.up _ _ h'] at hp
        cases hp
      rw [hp, if_neg Bool.false_ne_true] at h
      rw [hpa, if_neg Bool.false_ne_true]
      have hbe : (bestE s i 4).2 ≤ a.size := by
        split at h
        · cases h
        · simp only [Except.ok.injEq, Prod.mk.injEq] at h
          omega
      rw [bestT H hi 4 hbe, ← H.ext _ _ hbe]
      exact h
theorem blanks_idle {s : ByteArray} {i : Nat} (hi : i ≤ s.size) (h : blanksE s i = .ok i) : whileE blankB s i = i ∧ preAt s i [40, 42] = false := by
  have h1 := whileE_ge blankB s i
  have h2 := whileE_le blankB s i hi
  cases hp : preAt s (whileE blankB s i) [40, 42] with
  | true =>
    cases hn : nestE s [40, 42] [42, 41] (whileE blankB s i) 0 with
    | none => rw [blanksE_err s i hp hn] at h; cases h
    | some e =>
      have h3 := nestE_lt (by decide) (by decide) h2 hn
      have h4 := nestE_le h2 hn
      rw [blanksE_step s i hi hp hn] at h
      have := (blanksE_le h4.2 h).1
      omega
  | false =>
    rw [blanksE_none s i hp] at h
    have e : whileE blankB s i = i := by simpa using h
    rw [e] at hp
    exact ⟨e, hp⟩
theorem blanksT (H : Pre a s) {i : Nat} (hi : i ≤ a.size) (h : blanksE s i = .ok i) : blanksE a i = .ok i := by
  have hle := H.le
  obtain ⟨e, hp⟩ := blanks_idle (by omega) h
  have ea : whileE blankB a i = i := by rw [while_min H _ hi, e]; omega
  have hpa : preAt a i [40, 42] = false := by
    rw [Bool.eq_false_iff]
    intro h'
    rw [H.up _ _ h'] at hp
    cases hp
  rw [blanksE_none a i (by rw [ea]; exact hpa), ea]
theorem blanks_again {s : ByteArray} : ∀ d i j, s.size - i ≤ d → i ≤ s.size → blanksE s i = .ok j → blanksE s j = .ok j := by
  intro d
  induction d using Nat.strongRecOn with
  | _ d ih =>
    intro i j hd hi h
    have h1 := whileE_ge blankB s i
    have h2 := whileE_le blankB s i hi
    cases hp : preAt s (whileE blankB s i) [40, 42] with
    | true =>
      cases hn : nestE s [40, 42] [42, 41] (whileE blankB s i) 0 with
      | none => rw [blanksE_err s i hp hn] at h; cases h
      | some e =>
        have h3 := nestE_lt (by decide) (by decide) h2 hn
        have h4 := nestE_le h2 hn
        rw [blanksE_step s i hi hp hn] at h
        exact ih (s.size - e) (by omega) e j (Nat.le_refl _) h4.2 h
    | false =>
      rw [blanksE_none s i hp] at h
      have e : whileE blankB s i = j := by simpa using h
      rw [e] at hp
      have ej : whileE blankB s j = j := by
        rw [← e]
        by_cases hlt : whileE blankB s i < s.size
        · apply whileE_miss _ _ _ hlt
          exact while_stop blankB s _ i (Nat.le_refl _) hlt
        · exact whileE_end _ _ _ (by omega)
      rw [blanksE_none s j (by rw [ej]; exact hp), ej]
end Go.Proofs.YtmkfeanggmjhmaaGreat.Q
