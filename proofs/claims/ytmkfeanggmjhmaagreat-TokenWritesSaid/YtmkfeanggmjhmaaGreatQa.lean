/- Reading a part of a text: what is read inside a beginning of a text is what is read in the text.  It names no program. -/
import Derived.Test.YtmkfeanggmjhmaaGreatM
namespace Go.Proofs.YtmkfeanggmjhmaaGreat.Q
set_option linter.unusedSimpArgs false
set_option linter.unusedVariables false
open Go Go.RowKit Go.Proofs.YtmkfeanggmjhmaaGreatW.PrintWords Go.Proofs.YtmkfeanggmjhmaaGreat.M

theorem bt_opt (s : ByteArray) (i : Nat) : bt s (i : Int) = ((s.data.toList[i]?).map (fun x => (x.toNat : Int))).getD 0 := by
  unfold bt
  by_cases h : i < s.size
  · have h' : i < s.data.toList.length := h
    rw [dif_pos (by simpa using h), List.getElem?_eq_getElem h']
    rfl
  · have h' : s.data.toList.length ≤ i := by have : s.data.toList.length = s.size := rfl; omega
    rw [dif_neg (by simpa using h), List.getElem?_eq_none h']
    rfl

/-- a is a beginning of s -/
structure Pre (a s : ByteArray) : Prop where
  le : a.size ≤ s.size
  bt : ∀ i : Nat, i < a.size → bt s (i : Int) = bt a (i : Int)
  at_ : ∀ i t, i + t.length ≤ a.size → preAt s i t = preAt a i t
  up : ∀ i t, preAt a i t = true → preAt s i t = true
  ext : ∀ i j, j ≤ a.size → s.extract i j = a.extract i j
theorem size_len (a : ByteArray) : a.data.toList.length = a.size := rfl
theorem pre_short {t x r : List UInt8} (hl : t.length ≤ x.length) (h : t <+: x ++ r) : t <+: x := List.prefix_of_prefix_length_le h (List.prefix_append x r) hl
theorem pre_cross {c : UInt8} {y : List UInt8} : ∀ (t x : List UInt8), t <+: x ++ c :: y → c ∉ t → t <+: x
  | [], x, _, _ => List.nil_prefix
  | u :: t, [], h, hc => by
    rw [List.nil_append] at h
    have := (List.cons_prefix_cons.1 h).1
    subst this
    simp at hc
  | u :: t, v :: x, h, hc => by
    rw [List.cons_append] at h
    have h2 := List.cons_prefix_cons.1 h
    exact List.cons_prefix_cons.2 ⟨h2.1, pre_cross t x h2.2 (fun hm => hc (List.mem_cons_of_mem _ hm))⟩
theorem bool_eq {a b : Bool} (h : a = true ↔ b = true) : a = b := by cases a <;> cases b <;> simp_all
theorem ext_list (s : ByteArray) (i j : Nat) : (s.extract i j).data.toList = (s.data.toList.drop i).take (j - i) := by
  rw [ByteArray.data_extract, Array.toList_extract, List.extract_eq_take_drop]
theorem ba_ext {x y : ByteArray} (h : x.data.toList = y.data.toList) : x = y := by
  apply ByteArray.ext
  exact Array.ext' h
theorem Pre.mk' {a s : ByteArray} {r : List UInt8} (h : s.data.toList = a.data.toList ++ r) : Pre a s where
  le := by rw [← size_len, ← size_len, h, List.length_append]; omega
  bt := fun i hi => by rw [bt_opt, bt_opt, h, List.getElem?_append_left (by rw [size_len]; exact hi)]
  at_ := fun i t hi => by
    apply bool_eq
    unfold preAt
    rw [List.isPrefixOf_iff_prefix, List.isPrefixOf_iff_prefix, h, List.drop_append_of_le_length (by rw [size_len]; omega)]
    exact ⟨fun hp => pre_short (by rw [List.length_drop, size_len]; omega) hp, fun hp => hp.trans (List.prefix_append _ _)⟩
  up := fun i t hp => by
    unfold preAt at *
    rw [List.isPrefixOf_iff_prefix] at *
    rw [h, List.drop_append]
    exact hp.trans (List.prefix_append _ _)
  ext := fun i j hj => by
    apply ba_ext
    rw [ext_list, ext_list, h]
    by_cases hi : i ≤ j
    · rw [List.drop_append_of_le_length (by rw [size_len]; omega), List.take_append_of_le_length (by rw [List.length_drop, size_len]; omega)]
    · rw [show j - i = 0 by omega, List.take_zero, List.take_zero]

theorem while_stop (p : Int → Bool) (s : ByteArray) : ∀ d i, s.size - i ≤ d → whileE p s i < s.size → p (bt s (whileE p s i : Int)) = false
  | 0, i, hd, h => by
    have := whileE_ge p s i
    omega
  | d + 1, i, hd, h => by
    have hg := whileE_ge p s i
    have hi : i < s.size := by omega
    cases hp : p (bt s (i : Int)) with
    | true =>
      rw [whileE_hit p s i hi hp] at h ⊢
      exact while_stop p s d (i + 1) (by omega) h
    | false => rw [whileE_miss p s i hi hp]; exact hp
variable {a s : ByteArray}
theorem whileT (H : Pre a s) (p : Int → Bool) : ∀ d i, a.size - i ≤ d → i ≤ a.size → whileE p a i = min (whileE p s i) a.size
  | 0, i, hd, hi => by
    obtain rfl : i = a.size := by omega
    rw [whileE_end p a _ (Nat.le_refl _)]
    have := whileE_ge p s a.size
    omega
  | d + 1, i, hd, hi => by
    have hle := H.le
    by_cases hlt : i < a.size
    · cases hp : p (bt a (i : Int)) with
      | true => rw [whileE_hit p a i hlt hp, whileE_hit p s i (by omega) (by rw [H.bt i hlt]; exact hp)]; exact whileT H p d (i + 1) (by omega) (by omega)
      | false => rw [whileE_miss p a i hlt hp, whileE_miss p s i (by omega) (by rw [H.bt i hlt]; exact hp)]; omega
    · obtain rfl : i = a.size := by omega
      rw [whileE_end p a _ (Nat.le_refl _)]
      have := whileE_ge p s a.size
      omega
theorem while_min (H : Pre a s) (p : Int → Bool) {i : Nat} (hi : i ≤ a.size) : whileE p a i = min (whileE p s i) a.size := whileT H p _ i (Nat.le_refl _) hi
theorem ident_min (H : Pre a s) {i : Nat} (hi : i ≤ a.size) : identE a i = min (identE s i) a.size := by
  have hle := H.le
  by_cases hlt : i < a.size
  · unfold identE
    rw [if_pos hlt, if_pos (show i < s.size by omega), H.bt i hlt]
    cases hl : letterB (bt a (i : Int)) with
    | true => rw [if_pos rfl, if_pos rfl]; exact while_min H _ hi
    | false => rw [if_neg Bool.false_ne_true, if_neg Bool.false_ne_true]; omega
  · have := identE_ge s i
    have e : identE a i = i := by unfold identE; rw [if_neg hlt]
    omega
theorem namedT (H : Pre a s) {i : Nat} (hi : i ≤ a.size) (h : namedE s i ≤ a.size) : namedE a i = namedE s i := by
  have hle := H.le
  by_cases h2 : i + 2 ≤ a.size
  · have e := ident_min H h2
    have hp := H.at_ i [92, 60] h2
    unfold namedE at *
    rw [← hp]
    split
    · rename_i hpt
      rw [if_pos hpt] at h
      by_cases hf : identE s (i + 2) = i + 2 ∨ identE s (i + 2) = s.size ∨ bt s (identE s (i + 2) : Int) ≠ 62
      · rw [if_pos hf]
        rw [if_pos]
        rw [e]
        by_cases hn : identE s (i + 2) < a.size
        · rw [Nat.min_eq_left (by omega)]
          rcases hf with h1 | h1 | h1
          · exact .inl h1
          · omega
          · exact .inr (.inr (by rw [← H.bt _ hn]; exact h1))
        · rw [Nat.min_eq_right (by omega)]
          exact .inr (.inl rfl)
      · rw [if_neg hf] at h ⊢
        have hm : min (identE s (i + 2)) a.size = identE s (i + 2) := by omega
        rw [e, hm, if_neg]
        rintro (h1 | h1 | h1)
        · exact hf (.inl h1)
        · omega
        · exact hf (.inr (.inr (by rw [H.bt _ (by omega)]; exact h1)))
    · rfl
  · have ha : preAt a i [92, 60] = false := by
      rw [Bool.eq_false_iff]
      intro hp
      have := preAt_le hp hi
      simp at this
      omega
    have hs : namedE s i = i := by
      unfold namedE at *
      split
      · rename_i hp
        rw [if_pos hp] at h
        split
        · rfl
        · rename_i hf
          rw [if_neg hf] at h
          have := identE_ge s (i + 2)
          omega
      · rfl
    rw [hs]
    unfold namedE
    rw [ha]
    rfl
theorem stepT (H : Pre a s) {b e : List UInt8} {i : Nat} (h : i + stepW s b e i ≤ a.size) : stepW a b e i = stepW s b e i ∧ stepD a b e i = stepD s b e i := by
  have key : ∀ t, i + t.length ≤ a.size ∨ preAt s i t = false → preAt a i t = preAt s i t := by
    intro t ht
    rcases ht with h1 | h1
    · exact (H.at_ i t h1).symm
    · rw [h1, Bool.eq_false_iff]
      intro hp
      rw [H.up i t hp] at h1
      cases h1
  unfold stepW stepD at *
  cases hb : preAt s i b with
  | true =>
    rw [hb, if_pos rfl] at h
    rw [key b (.inl h), hb]
    exact ⟨rfl, rfl⟩
  | false =>
    rw [hb, if_neg Bool.false_ne_true] at h
    rw [key b (.inr hb), hb]
    cases he : preAt s i e with
    | true =>
      rw [he, if_pos rfl] at h
      rw [key e (.inl h), he]
      exact ⟨rfl, rfl⟩
    | false =>
      rw [key e (.inr he), he]
      exact ⟨rfl, rfl⟩
theorem nestT (H : Pre a s) {b e : List UInt8} (hb : 0 < b.length) (he : 0 < e.length) : ∀ d i deep j, a.size - i ≤ d → nestE s b e i deep = some j → j ≤ a.size → nestE a b e i deep = some j := by
  intro d
  have hle := H.le
  induction d with
  | zero =>
    intro i deep j hd h hj
    by_cases hi : i < s.size
    · have := nestE_lt hb he (Nat.le_of_lt hi) h
      omega
    · rw [nestE_end s b e i deep (by omega)] at h
      cases h
  | succ d ih =>
    intro i deep j hd h hj
    by_cases hi : i < s.size
    · have hij := nestE_lt hb he (Nat.le_of_lt hi) h
      have hw := stepW_le s b e i hi
      have hp := stepW_pos s b e i hb he
      by_cases h0 : deep + stepD s b e i = 0
      · rw [nestE_stop s b e i deep hi h0] at h
        cases h
        obtain ⟨e1, e2⟩ := stepT H hj
        rw [nestE_stop a b e i deep (by omega) (by rw [e2]; exact h0), e1]
      · rw [nestE_step s b e hb he i deep hi h0] at h
        have hlt := nestE_le hw h
        obtain ⟨e1, e2⟩ := stepT H (b := b) (e := e) (i := i) (by omega)
        rw [nestE_step a b e hb he i deep (by omega) (by rw [e2]; exact h0), e1, e2]
        exact ih _ _ _ (by omega) h hj
    · rw [nestE_end s b e i deep (by omega)] at h
      cases h
theorem textT (H : Pre a s) : ∀ d i out r, a.size - i ≤ d → textE s i out = some r → r.2 ≤ a.size → textE a i out = some r := by
  intro d
  have hle := H.le
  induction d with
  | zero =>
    intro i out r hd h hr
    have := textE_lt h
    omega
  | succ d ih =>
    intro i out r hd h hr
    have hlt := textE_lt h
    have hi : i < a.size := by omega
    rw [textE_eq s i out (by omega), H.bt i hi] at h
    rw [textE_eq a i out hi]
    split at h
    · cases h
    · rename_i h1
      rw [if_neg h1]
      split at h
      · rename_i h2
        rw [if_pos h2]
        exact h
      · rename_i h2
        rw [if_neg h2]
        split at h
        · rename_i h3
          rw [if_pos h3]
          split at h
          · rename_i h4
            have hi1 : i + 1 < a.size := by
              split at h
              · have := textE_lt h; omega
              · split at h
                · have := textE_lt h; omega
                · cases h
            rw [if_pos hi1]
            rw [H.bt (i + 1) hi1] at h
            split at h
            · rename_i h5
              rw [if_pos h5]
              exact ih _ _ _ (by omega) h hr
            · rename_i h5
              rw [if_neg h5]
              split at h
              · rename_i h6
                rw [if_pos h6]
                exact ih _ _ _ (by omega) h hr
              · cases h
          · cases h
        · rename_i h3
          rw [if_neg h3]
          exact ih _ _ _ (by omega) h hr
theorem indexT (H : Pre a s) {i : Nat} (hi : i ≤ a.size) (h : indexE s i ≤ a.size) : indexE a i = indexE s i := by
  have hle := H.le
  unfold indexE at *
  by_cases hlt : i < a.size
  · rw [if_pos (show i < s.size by omega), H.bt i hlt] at h ⊢
    rw [if_pos hlt] at *
    split
    · rename_i hd
      rw [if_pos hd] at h
      rw [while_min H _ (show i + 1 ≤ a.size by omega)]
      have := whileE_ge digitB s (i + 1)
      by_cases hw : i + 1 < whileE digitB s (i + 1)
      · rw [if_pos hw] at h ⊢
        rw [if_pos (by omega)]
        omega
      · rw [if_neg hw, if_neg (by omega)]
    · rfl
  · rw [if_neg hlt]
    by_cases hs : i < s.size
    · rw [if_pos hs] at h ⊢
      split
      · rename_i hd
        rw [if_pos hd] at h
        split
        · rename_i hw
          rw [if_pos hw] at h
          omega
        · rfl
      · rfl
    · rw [if_neg hs]
theorem wordT (H : Pre a s) : ∀ d k e, a.size - e ≤ d → e ≤ a.size → (wordE s k e).2 ≤ a.size → wordE a k e = wordE s k e := by
  intro d
  have hle := H.le
  induction d with
  | zero =>
    intro k e hd he h
    obtain rfl : e = a.size := by omega
    rw [wordE_end a k _ (Nat.le_refl _)]
    by_cases hs : a.size < s.size
    · by_cases hb : bt s (a.size : Int) = 46
      · by_cases hi : identE s (a.size + 1) = a.size + 1
        · rw [wordE_stop s k _ hs hi]
        · rw [wordE_step s k _ hs hb hi] at h
          have h1 := identE_ge s (a.size + 1)
          have h2 := identE_le s (a.size + 1) (by omega)
          have h3 := wordF_le s (s.size - identE s (a.size + 1)) 2 _ h2
          unfold wordE at h
          omega
      · rw [wordE_dot s k _ hs hb]
    · rw [wordE_end s k _ (by omega)]
  | succ d ih =>
    intro k e hd he h
    by_cases hlt : e < a.size
    · by_cases hb : bt a (e : Int) = 46
      · have hbs : bt s (e : Int) = 46 := by rw [H.bt e hlt]; exact hb
        have hm := ident_min H (show e + 1 ≤ a.size by omega)
        have hg := identE_ge s (e + 1)
        by_cases hi : identE s (e + 1) = e + 1
        · rw [wordE_stop s k e (by omega) hi, wordE_stop a k e hlt (by omega)]
        · rw [wordE_step s k e (by omega) hbs hi] at h ⊢
          have h2 := identE_le s (e + 1) (by omega)
          have h3 := wordF_le s (s.size - identE s (e + 1)) 2 _ h2
          have h4 : identE s (e + 1) ≤ a.size := by unfold wordE at h; omega
          rw [wordE_step a k e hlt hb (by omega), hm, Nat.min_eq_left h4]
          exact ih _ _ (by omega) h4 h
      · rw [wordE_dot a k e hlt hb, wordE_dot s k e (by omega) (by rw [H.bt e hlt]; exact hb)]
    · exact (by
        obtain rfl : e = a.size := by omega
        exact (ih k _ (by omega) he h))
theorem namesT (H : Pre a s) {i : Nat} (hi : i ≤ a.size) (h : (namesE s i).2 ≤ a.size) : namesE a i = namesE s i := by
  have hle := H.le
  have hm := ident_min H hi
  have hg := identE_ge s i
  have hl := identE_le s i (by omega)
  have h4 : identE s i ≤ a.size := by
    unfold namesE at h
    split at h
    · have h3 := wordF_le s (s.size - identE s i) 1 _ hl
      unfold wordE at h
      omega
    · exact h
  rw [Nat.min_eq_left h4] at hm
  unfold namesE at *
  rw [hm]
  split
  · rename_i hlt
    rw [if_pos hlt] at h
    exact wordT H _ _ _ (Nat.le_refl _) h4 h
  · rfl
theorem markT (H : Pre a s) {i : Nat} {m : List UInt8} (hi : i ≤ a.size) (h : ∀ e, markE s i m = some e → e ≤ a.size) : markE a i m = markE s i m := by
  have hle := H.le
  by_cases h2 : i + m.length ≤ a.size
  · have hm := ident_min H h2
    have hg := identE_ge s (i + m.length)
    unfold markE at *
    rw [← H.at_ i m h2]
    split
    · rename_i hp
      rw [if_pos hp] at h
      by_cases hlt : i + m.length < identE s (i + m.length)
      · have := h _ (if_pos hlt)
        rw [if_pos hlt, if_pos (by omega), hm, Nat.min_eq_left this]
      · rw [if_neg hlt, if_neg (by omega)]
    · rfl
  · have ha : markE a i m = none := by
      unfold markE
      rw [if_neg]
      intro hp
      have := preAt_le hp hi
      omega
    rw [ha]
    cases hs : markE s i m with
    | none => rfl
    | some e =>
      have h1 := h e hs
      unfold markE at hs
      split at hs
      · split at hs
        · cases hs
          omega
        · cases hs
      · cases hs
theorem markE_end {s : ByteArray} {i : Nat} {m : List UInt8} {e : Nat} (h : markE s i m = some e) (hi : i ≤ s.size) : e ≤ s.size := (markE_le hi h).2
theorem varsT (H : Pre a s) {i : Nat} (hi : i ≤ a.size) (h : (varsE s i).2 ≤ a.size) : varsE a i = varsE s i := by
  have hle := H.le
  have key : ∀ m, (∀ e, markE s i m = some e → e ≤ a.size) → markE a i m = markE s i m := fun m hm => markT H hi hm
  unfold varsE at *
  have ix : ∀ e, e ≤ s.size → e ≤ indexE s e := fun e he => (indexE_le s e he).1
  cases h1 : markE s i [39] with
  | some e =>
    rw [h1] at h
    rw [key _ (fun e' h' => by rw [h1] at h'; cases h'; exact h), h1]
  | none =>
    rw [h1] at h
    rw [key _ (fun e' h' => by rw [h1] at h'; cases h'), h1]
    cases h2 : markE s i [63, 39] with
    | some e =>
      rw [h2] at h
      have he : e ≤ a.size := Nat.le_trans (ix e (markE_end h2 (by omega))) h
      rw [key _ (fun e' h' => by rw [h2] at h'; cases h'; exact he), h2]
      simp only
      rw [indexT H he h]
    | none =>
      rw [h2] at h
      rw [key _ (fun e' h' => by rw [h2] at h'; cases h'), h2]
      cases h3 : markE s i [63] with
      | some e =>
        rw [h3] at h
        have he : e ≤ a.size := Nat.le_trans (ix e (markE_end h3 (by omega))) h
        rw [key _ (fun e' h' => by rw [h3] at h'; cases h'; exact he), h3]
        simp only
        rw [indexT H he h]
      | none =>
        rw [key _ (fun e' h' => by rw [h3] at h'; cases h'), h3]
theorem symT (H : Pre a s) {i : Nat} (hi : i < a.size) (h : symE s i ≤ a.size) : symE a i = symE s i := by
  have hle := H.le
  have h1 := namedE_ge s i
  have h2 := whileE_ge signB s i
  have hm : max (namedE s i) (runE s i) ≤ a.size := by
    unfold symE at h
    split at h
    · rename_i he; omega
    · exact h
  have hr : runE a i = runE s i := by
    unfold runE at *
    rw [while_min H _ (by omega), Nat.min_eq_left (by omega)]
  unfold symE at *
  rw [namedT H (by omega) (by omega), hr, H.bt i hi]
theorem readT (H : Pre a s) {i : Nat} (hi : i < a.size) (j : Nat) (h : (readE s i j).2 ≤ a.size) : readE a i j = readE s i j := by
  match j with
  | 0 => exact namesT H (by omega) h
  | 1 => exact varsT H (by omega) h
  | 2 =>
    change whileE digitB s i ≤ a.size at h
    show ((6 : Int), whileE digitB a i) = (6, whileE digitB s i)
    rw [while_min H _ (by omega), Nat.min_eq_left h]
  | _ + 3 =>
    change symE s i ≤ a.size at h
    show ((7 : Int), symE a i) = (7, symE s i)
    rw [symT H hi h]
theorem best_up (s : ByteArray) (i : Nat) : ∀ j, (bestE s i j).2 ≤ (bestE s i (j + 1)).2 ∧ (readE s i j).2 ≤ (bestE s i (j + 1)).2 := by
  intro j
  rw [bestE]
  split <;> omega
theorem bestT (H : Pre a s) {i : Nat} (hi : i < a.size) : ∀ j, (bestE s i j).2 ≤ a.size → bestE a i j = bestE s i j := by
  intro j
  induction j with
  | zero => intro _; rfl
  | succ j ih =>
    intro h
    obtain ⟨h1, h2⟩ := best_up s i j
    rw [bestE, bestE, ih (by omega), readT H hi j (by omega)]
theorem oneT (H : Pre a s) {kw : List UInt8 → Bool} {i : Nat} (hi : i < a.size) {t : Int × ByteArray} {e : Nat} (h : oneE kw s i = .ok (t, e)) (he : e ≤ a.size) : oneE kw a i = .ok (t, e) := by
  have hle := H.le
  unfold oneE at *
  rw [H.bt i hi] at h
  split at h
  · rename_i h1
    rw [if_pos h1]
    cases ht : textE s (i + 1) [] with
    | none => rw [ht] at h; cases h
    | some r =>
      obtain ⟨l, j⟩ := r
      rw [ht] at h
      simp only [Except.ok.injEq, Prod.mk.injEq] at h
      obtain ⟨rfl, rfl⟩ := h
      rw [textT H _ _ _ _ (Nat.le_refl _) ht he]
  · rename_i h1
    rw [if_neg h1]
    cases hp : preAt s i opened with
    | true =>
      rw [hp, if_pos rfl] at h
      cases ht : nestE s opened closed i 0 with
      | none => rw [ht] at h; cases h
      | some j =>
        rw [ht] at h
        simp only [Except.ok.injEq, Prod.mk.injEq] at h
        obtain ⟨rfl, rfl⟩ := h
        have hb := nestE_both (Nat.le_of_lt (show i < s.size by omega)) hp ht
        rw [← H.at_ i opened (by omega), hp, if_pos rfl, nestT H (by decide) (by decide) _ _ _ _ (Nat.le_refl _) ht he]
        simp only
        rw [H.ext _ _ (by omega)]
    | false =>
      have hpa : preAt a i opened = false := by
        rw [Bool.eq_false_iff]
        intro h'
        rw [H.up _ _ h'] at hp
        cases hp
      rw [hp, if_neg Bool.false_ne_true] at h
      rw [hpa, if_neg Bool.false_ne_true]
      have hbe : (bestE s i 4).2 ≤ a.size := by
        split at h
        · cases h
        · simp only [Except.ok.injEq, Prod.mk.injEq] at h
          omega
      rw [bestT H hi 4 hbe, ← H.ext _ _ hbe]
      exact h
theorem blanks_idle {s : ByteArray} {i : Nat} (hi : i ≤ s.size) (h : blanksE s i = .ok i) : whileE blankB s i = i ∧ preAt s i [40, 42] = false := by
  have h1 := whileE_ge blankB s i
  have h2 := whileE_le blankB s i hi
  cases hp : preAt s (whileE blankB s i) [40, 42] with
  | true =>
    cases hn : nestE s [40, 42] [42, 41] (whileE blankB s i) 0 with
    | none => rw [blanksE_err s i hp hn] at h; cases h
    | some e =>
      have h3 := nestE_lt (by decide) (by decide) h2 hn
      have h4 := nestE_le h2 hn
      rw [blanksE_step s i hi hp hn] at h
      have := (blanksE_le h4.2 h).1
      omega
  | false =>
    rw [blanksE_none s i hp] at h
    have e : whileE blankB s i = i := by simpa using h
    rw [e] at hp
    exact ⟨e, hp⟩
theorem blanksT (H : Pre a s) {i : Nat} (hi : i ≤ a.size) (h : blanksE s i = .ok i) : blanksE a i = .ok i := by
  have hle := H.le
  obtain ⟨e, hp⟩ := blanks_idle (by omega) h
  have ea : whileE blankB a i = i := by rw [while_min H _ hi, e]; omega
  have hpa : preAt a i [40, 42] = false := by
    rw [Bool.eq_false_iff]
    intro h'
    rw [H.up _ _ h'] at hp
    cases hp
  rw [blanksE_none a i (by rw [ea]; exact hpa), ea]
theorem blanks_again {s : ByteArray} : ∀ d i j, s.size - i ≤ d → i ≤ s.size → blanksE s i = .ok j → blanksE s j = .ok j := by
  intro d
  induction d using Nat.strongRecOn with
  | _ d ih =>
    intro i j hd hi h
    have h1 := whileE_ge blankB s i
    have h2 := whileE_le blankB s i hi
    cases hp : preAt s (whileE blankB s i) [40, 42] with
    | true =>
      cases hn : nestE s [40, 42] [42, 41] (whileE blankB s i) 0 with
      | none => rw [blanksE_err s i hp hn] at h; cases h
      | some e =>
        have h3 := nestE_lt (by decide) (by decide) h2 hn
        have h4 := nestE_le h2 hn
        rw [blanksE_step s i hi hp hn] at h
        exact ih (s.size - e) (by omega) e j (Nat.le_refl _) h4.2 h
    | false =>
      rw [blanksE_none s i hp] at h
      have e : whileE blankB s i = j := by simpa using h
      rw [e] at hp
      have ej : whileE blankB s j = j := by
        rw [← e]
        by_cases hlt : whileE blankB s i < s.size
        · apply whileE_miss _ _ _ hlt
          exact while_stop blankB s _ i (Nat.le_refl _) hlt
        · exact whileE_end _ _ _ (by omega)
      rw [blanksE_none s j (by rw [ej]; exact hp), ej]
end Go.Proofs.YtmkfeanggmjhmaaGreat.Q
namespace Go.Proofs.YtmkfeanggmjhmaaGreat.Q
set_option linter.unusedSimpArgs false
set_option linter.unusedVariables false
open Go Go.RowKit Go.Proofs.YtmkfeanggmjhmaaGreatW.PrintWords Go.Proofs.YtmkfeanggmjhmaaGreat.M

/-- s is a, a byte that is part of no token, and b -/
structure Sep (a b s : ByteArray) (c : UInt8) : Prop where
  eq : s.data.toList = a.data.toList ++ c :: b.data.toList
  no : c = 10 ∨ c = 32
section
variable {a b s : ByteArray} {c : UInt8}
theorem Sep.pre (H : Sep a b s c) : Pre a s := Pre.mk' H.eq
theorem Sep.size (H : Sep a b s c) : s.size = a.size + 1 + b.size := by
  have := congrArg List.length H.eq
  rw [List.length_append, List.length_cons] at this
  have e1 : s.data.toList.length = s.size := rfl
  have e2 : a.data.toList.length = a.size := rfl
  have e3 : b.data.toList.length = b.size := rfl
  omega
theorem Sep.bt_n (H : Sep a b s c) : bt s (a.size : Int) = 10 ∨ bt s (a.size : Int) = 32 := by
  rw [bt_opt, H.eq, ← size_len, List.getElem?_append_right (Nat.le_refl _), Nat.sub_self]
  rcases H.no with rfl | rfl
  · exact .inl rfl
  · exact .inr rfl
theorem Sep.cross (H : Sep a b s c) {i : Nat} {t : List UInt8} (hi : i ≤ a.size) (h10 : (10 : UInt8) ∉ t) (h32 : (32 : UInt8) ∉ t) : preAt s i t = preAt a i t := by
  have hc : c ∉ t := by rcases H.no with rfl | rfl <;> assumption
  apply bool_eq
  refine ⟨fun h => ?_, H.pre.up i t⟩
  unfold preAt at *
  rw [List.isPrefixOf_iff_prefix] at *
  rw [H.eq, List.drop_append_of_le_length (by rw [size_len]; exact hi)] at h
  exact pre_cross _ _ h hc
theorem while_all (p : Int → Bool) (s : ByteArray) : ∀ d i k, s.size - i ≤ d → i ≤ k → k < whileE p s i → k < s.size → p (bt s (k : Int)) = true
  | 0, i, k, hd, hik, hk, hs => by omega
  | d + 1, i, k, hd, hik, hk, hs => by
    have hi : i < s.size := by omega
    cases hp : p (bt s (i : Int)) with
    | true =>
      by_cases he : i = k
      · subst he; exact hp
      · rw [whileE_hit p s i hi hp] at hk
        exact while_all p s d (i + 1) k (by omega) (by omega) hk hs
    | false => rw [whileE_miss p s i hi hp] at hk; omega
theorem while_through (p : Int → Bool) (s : ByteArray) : ∀ d i k, k - i ≤ d → i ≤ k → k ≤ whileE p s i → k ≤ s.size → whileE p s i = whileE p s k
  | 0, i, k, hd, hik, hk, hs => by obtain rfl : i = k := by omega
                                   rfl
  | d + 1, i, k, hd, hik, hk, hs => by
    by_cases he : i = k
    · subst he; rfl
    · have hi : i < s.size := by omega
      cases hp : p (bt s (i : Int)) with
      | true =>
        rw [whileE_hit p s i hi hp] at hk ⊢
        exact while_through p s d (i + 1) k (by omega) (by omega) hk hs
      | false => rw [whileE_miss p s i hi hp] at hk; omega
theorem whileP (H : Sep a b s c) {p : Int → Bool} (h10 : p 10 = false) (h32 : p 32 = false) {i : Nat} (hi : i ≤ a.size) : whileE p s i = whileE p a i ∧ whileE p s i ≤ a.size := by
  have hs := H.size
  have hle : whileE p s i ≤ a.size := by
    rcases Nat.lt_or_ge a.size (whileE p s i) with h | h
    · have := while_all p s _ i a.size (Nat.le_refl _) hi h (by omega)
      rcases H.bt_n with e | e
      · rw [e, h10] at this; cases this
      · rw [e, h32] at this; cases this
    · exact h
  exact ⟨by rw [while_min H.pre p hi]; omega, hle⟩
theorem identP (H : Sep a b s c) {i : Nat} (hi : i ≤ a.size) : identE s i = identE a i ∧ identE s i ≤ a.size := by
  have hs := H.size
  have hle : identE s i ≤ a.size := by
    unfold identE
    rw [if_pos (by omega)]
    split
    · exact (whileP H (by decide) (by decide) hi).2
    · exact hi
  exact ⟨by rw [ident_min H.pre hi]; omega, hle⟩
theorem namedP (H : Sep a b s c) {i : Nat} (hi : i ≤ a.size) : namedE s i = namedE a i ∧ namedE s i ≤ a.size := by
  have hs := H.size
  have hle : namedE s i ≤ a.size := by
    unfold namedE
    split
    · rename_i hp
      rw [H.cross hi (by decide) (by decide)] at hp
      have h2 := preAt_le hp hi
      simp only [List.length_cons, List.length_nil] at h2
      obtain ⟨e1, e2⟩ := identP H (i := i + 2) h2
      split
      · exact hi
      · rename_i hn
        have : identE s (i + 2) ≠ a.size := by
          intro e
          apply hn
          refine .inr (.inr ?_)
          rw [e]
          rcases H.bt_n with h | h <;> rw [h] <;> decide
        omega
    · exact hi
  exact ⟨(namedT H.pre hi hle).symm, hle⟩
theorem word_le (H : Sep a b s c) : ∀ d k e, a.size - e ≤ d → e ≤ a.size → (wordE s k e).2 ≤ a.size := by
  have hs := H.size
  have hn : ∀ k, (wordE s k a.size).2 ≤ a.size := fun k => by
    rw [wordE_dot s k a.size (by omega) (by rcases H.bt_n with h | h <;> rw [h] <;> decide)]
    exact Nat.le_refl _
  intro d
  induction d with
  | zero =>
    intro k e hd he
    obtain rfl : e = a.size := by omega
    exact hn k
  | succ d ih =>
    intro k e hd he
    by_cases hlt : e < a.size
    · by_cases hb : bt s (e : Int) = 46
      · obtain ⟨e1, e2⟩ := identP H (i := e + 1) (by omega)
        have hg := identE_ge s (e + 1)
        by_cases hi : identE s (e + 1) = e + 1
        · rw [wordE_stop s k e (by omega) hi]; exact he
        · rw [wordE_step s k e (by omega) hb hi]
          exact ih _ _ (by omega) e2
      · rw [wordE_dot s k e (by omega) hb]; exact he
    · obtain rfl : e = a.size := by omega
      exact hn k
theorem index_le (H : Sep a b s c) {i : Nat} (hi : i ≤ a.size) : indexE s i ≤ a.size := by
  have hs := H.size
  unfold indexE
  rw [if_pos (by omega)]
  split
  · rename_i hd
    have hlt : i < a.size := by
      rcases Nat.lt_or_ge i a.size with h | h
      · exact h
      · obtain rfl : i = a.size := by omega
        rcases H.bt_n with h | h <;> rw [h] at hd <;> cases hd
    have := (whileP H (p := digitB) (by decide) (by decide) (show i + 1 ≤ a.size by omega)).2
    split <;> omega
  · exact hi
theorem mark_le (H : Sep a b s c) {i : Nat} {m : List UInt8} (hi : i ≤ a.size) (h10 : (10 : UInt8) ∉ m) (h32 : (32 : UInt8) ∉ m) : ∀ e, markE s i m = some e → e ≤ a.size := by
  intro e h
  unfold markE at h
  split at h
  · rename_i hp
    rw [H.cross hi h10 h32] at hp
    have h2 := preAt_le hp hi
    have := (identP H (i := i + m.length) h2).2
    split at h
    · cases h; exact this
    · cases h
  · cases h
theorem vars_le (H : Sep a b s c) {i : Nat} (hi : i ≤ a.size) : (varsE s i).2 ≤ a.size := by
  unfold varsE
  cases h1 : markE s i [39] with
  | some e => exact mark_le H hi (by decide) (by decide) e h1
  | none =>
    cases h2 : markE s i [63, 39] with
    | some e => exact index_le H (mark_le H hi (by decide) (by decide) e h2)
    | none =>
      cases h3 : markE s i [63] with
      | some e => exact index_le H (mark_le H hi (by decide) (by decide) e h3)
      | none => exact hi
theorem read_le (H : Sep a b s c) {i : Nat} (hi : i < a.size) (j : Nat) : (readE s i j).2 ≤ a.size := by
  match j with
  | 0 =>
    show (namesE s i).2 ≤ a.size
    obtain ⟨e1, e2⟩ := identP H (i := i) (by omega)
    unfold namesE
    split
    · exact word_le H _ _ _ (Nat.le_refl _) e2
    · exact e2
  | 1 => exact vars_le H (by omega)
  | 2 => exact (whileP H (p := digitB) (by decide) (by decide) (by omega)).2
  | _ + 3 =>
    show symE s i ≤ a.size
    have h1 := (namedP H (i := i) (by omega)).2
    have h2 : runE s i ≤ a.size := (whileP H (p := signB) (by decide) (by decide) (by omega)).2
    unfold symE
    split
    · split <;> omega
    · omega
theorem bestP (H : Sep a b s c) {i : Nat} (hi : i < a.size) : ∀ j, bestE s i j = bestE a i j
  | 0 => rfl
  | j + 1 => by rw [bestE, bestE, bestP H hi j, ← readT H.pre hi j (read_le H hi j)]
theorem best_le (H : Sep a b s c) {i : Nat} (hi : i < a.size) : ∀ j, (bestE s i j).2 ≤ a.size
  | 0 => Nat.le_of_lt hi
  | j + 1 => by
    rw [bestE]
    split
    · exact read_le H hi j
    · exact best_le H hi j
theorem nestP (H : Sep a b s c) {x y : List UInt8} (hx : 0 < x.length) (hy : 0 < y.length) (n1 : (10 : UInt8) ∉ x) (n2 : (32 : UInt8) ∉ x) (n3 : (10 : UInt8) ∉ y) (n4 : (32 : UInt8) ∉ y) :
    ∀ d i deep j, a.size - i ≤ d → nestE a x y i deep = some j → nestE s x y i deep = some j := by
  have hs := H.size
  have none_end : ∀ i deep j, a.size ≤ i → nestE a x y i deep = some j → False := fun i deep j hi h => by
    rw [nestE_end a x y i deep hi] at h; cases h
  intro d
  induction d with
  | zero => intro i deep j hd h; exact (none_end i deep j (by omega) h).elim
  | succ d ih =>
    intro i deep j hd h
    by_cases hi : i < a.size
    · have ew : stepW s x y i = stepW a x y i := by unfold stepW; rw [H.cross (by omega) n1 n2, H.cross (by omega) n3 n4]
      have ed : stepD s x y i = stepD a x y i := by unfold stepD; rw [H.cross (by omega) n1 n2, H.cross (by omega) n3 n4]
      have hp := stepW_pos a x y i hx hy
      by_cases h0 : deep + stepD a x y i = 0
      · rw [nestE_stop a x y i deep hi h0] at h
        rw [nestE_stop s x y i deep (by omega) (by rw [ed]; exact h0), ew]
        exact h
      · rw [nestE_step a x y hx hy i deep hi h0] at h
        rw [nestE_step s x y hx hy i deep (by omega) (by rw [ed]; exact h0), ew, ed]
        exact ih _ _ _ (by omega) h
    · exact (none_end i deep j (by omega) h).elim
theorem textP (H : Sep a b s c) : ∀ d i out r, a.size - i ≤ d → textE a i out = some r → textE s i out = some r := by
  have hs := H.size
  intro d
  induction d with
  | zero =>
    intro i out r hd h
    rw [textE_end a i out (by omega)] at h; cases h
  | succ d ih =>
    intro i out r hd h
    by_cases hi : i < a.size
    · rw [textE_eq a i out hi] at h
      rw [textE_eq s i out (by omega), H.pre.bt i hi]
      split at h
      · cases h
      · rename_i h1
        rw [if_neg h1]
        split at h
        · rename_i h2
          rw [if_pos h2]
          exact h
        · rename_i h2
          rw [if_neg h2]
          split at h
          · rename_i h3
            rw [if_pos h3]
            split at h
            · rename_i h4
              rw [if_pos (by omega), H.pre.bt (i + 1) h4]
              split at h
              · rename_i h5
                rw [if_pos h5]
                exact ih _ _ _ (by omega) h
              · rename_i h5
                rw [if_neg h5]
                split at h
                · rename_i h6
                  rw [if_pos h6]
                  exact ih _ _ _ (by omega) h
                · cases h
            · cases h
          · rename_i h3
            rw [if_neg h3]
            exact ih _ _ _ (by omega) h
    · rw [textE_end a i out (by omega)] at h; cases h
theorem oneP (H : Sep a b s c) {kw : List UInt8 → Bool} {i : Nat} (hi : i < a.size) {t : Int × ByteArray} {e : Nat} (h : oneE kw a i = .ok (t, e)) : oneE kw s i = .ok (t, e) := by
  have hs := H.size
  have hle := (oneE_lt hi h).2
  simp only at hle
  unfold oneE at *
  rw [H.pre.bt i hi, H.cross (by omega) (by decide) (by decide)]
  split at h
  · rename_i h1
    rw [if_pos h1]
    cases ht : textE a (i + 1) [] with
    | none => rw [ht] at h; cases h
    | some r =>
      rw [ht] at h
      rw [textP H _ _ _ _ (Nat.le_refl _) ht]
      exact h
  · rename_i h1
    rw [if_neg h1]
    cases hp : preAt a i opened with
    | true =>
      rw [hp, if_pos rfl] at h
      rw [if_pos rfl]
      cases ht : nestE a opened closed i 0 with
      | none => rw [ht] at h; cases h
      | some j =>
        rw [ht] at h
        rw [nestP H (by decide) (by decide) (by decide) (by decide) (by decide) (by decide) _ _ _ _ (Nat.le_refl _) ht]
        simp only [Except.ok.injEq, Prod.mk.injEq] at h
        obtain ⟨rfl, rfl⟩ := h
        simp only
        rw [H.pre.ext _ _ (by omega)]
    | false =>
      rw [hp, if_neg Bool.false_ne_true] at h
      rw [if_neg Bool.false_ne_true, H.pre.ext i _ (best_le H hi 4), bestP H hi 4]
      exact h
theorem blanks_congr {s : ByteArray} {i k : Nat} (hi : i ≤ s.size) (hk : k ≤ s.size) (h : whileE blankB s i = whileE blankB s k) : blanksE s i = blanksE s k := by
  cases hp : preAt s (whileE blankB s k) [40, 42] with
  | true =>
    cases hn : nestE s [40, 42] [42, 41] (whileE blankB s k) 0 with
    | none => rw [blanksE_err s k hp hn, blanksE_err s i (by rw [h]; exact hp) (by rw [h]; exact hn), h]
    | some e => rw [blanksE_step s k hk hp hn, blanksE_step s i hi (by rw [h]; exact hp) (by rw [h]; exact hn)]
  | false => rw [blanksE_none s k hp, blanksE_none s i (by rw [h]; exact hp), h]
theorem blanksP (H : Sep a b s c) : ∀ d i j, a.size - i ≤ d → i ≤ a.size → blanksE a i = .ok j → (j < a.size ∧ blanksE s i = .ok j) ∨ (j = a.size ∧ blanksE s i = blanksE s (a.size + 1)) := by
  have hs := H.size
  intro d
  induction d using Nat.strongRecOn with
  | _ d ih =>
    intro i j hd hi h
    have h1 := whileE_ge blankB a i
    have h2 := whileE_le blankB a i hi
    have hm := while_min H.pre blankB hi
    cases hp : preAt a (whileE blankB a i) [40, 42] with
    | true =>
      have hw : whileE blankB a i < a.size := by
        have := preAt_le hp h2
        simp only [List.length_cons, List.length_nil] at this
        omega
      have hws : whileE blankB s i = whileE blankB a i := by omega
      cases hn : nestE a [40, 42] [42, 41] (whileE blankB a i) 0 with
      | none => rw [blanksE_err a i hp hn] at h; cases h
      | some e =>
        have h3 := nestE_lt (by decide) (by decide) h2 hn
        have h4 := nestE_le h2 hn
        rw [blanksE_step a i hi hp hn] at h
        rw [blanksE_step s i (by omega) (by rw [hws]; exact H.pre.up _ _ hp) (by rw [hws]; exact nestP H (by decide) (by decide) (by decide) (by decide) (by decide) (by decide) _ _ _ _ (Nat.le_refl _) hn)]
        exact ih (a.size - e) (by omega) e j (Nat.le_refl _) h4.2 h
    | false =>
      rw [blanksE_none a i hp] at h
      have e : whileE blankB a i = j := by simpa using h
      by_cases hj : j < a.size
      · have hws : whileE blankB s i = j := by omega
        exact .inl ⟨hj, by rw [blanksE_none s i (by rw [hws, H.cross (by omega) (by decide) (by decide), ← e]; exact hp), hws]⟩
      · refine .inr ⟨by omega, blanks_congr (by omega) (by omega) ?_⟩
        rw [while_through blankB s _ i a.size (Nat.le_refl _) hi (by omega) (by omega)]
        exact whileE_hit blankB s a.size (by omega) (by rcases H.bt_n with h | h <;> rw [h] <;> decide)
/-- the tokens from a place on, behind blanks -/
def goon (kw : List UInt8 → Bool) (s : ByteArray) (i : Nat) (pre : List Tok) : List Tok × Option (Nat × Int) :=
  match blanksE s i with
  | .error p => (pre, some (p, 162))
  | .ok j => scanFrom kw s j pre
theorem scan_goon (kw : List UInt8 → Bool) (s : ByteArray) : scanE kw s = goon kw s 0 [] := rfl
theorem scanFrom_goon (kw : List UInt8 → Bool) (s : ByteArray) (i : Nat) (pre : List Tok) (h : i < s.size) : scanFrom kw s i pre =
    (match oneE kw s i with
     | .error c => (pre, some (i, c))
     | .ok ((k, t), e) => goon kw s e (pre ++ [⟨k, t, i⟩])) := scanFrom_eq kw s i pre h
theorem goonP (H : Sep a b s c) (kw : List UInt8 → Bool) : ∀ d i pre l, a.size - i ≤ d → i ≤ a.size → goon kw a i pre = (l, none) → goon kw s i pre = goon kw s (a.size + 1) l := by
  have hs := H.size
  intro d
  induction d using Nat.strongRecOn with
  | _ d ih =>
    intro i pre l hd hi h
    cases hb : blanksE a i with
    | error p => unfold goon at h; rw [hb] at h; cases h
    | ok j =>
      have hij := blanksE_le hi hb
      unfold goon at h
      rw [hb] at h
      simp only at h
      rcases blanksP H _ i j (Nat.le_refl _) hi hb with ⟨hj, hbs⟩ | ⟨hj, hbs⟩
      · rw [scanFrom_goon kw a j pre hj] at h
        have e0 : goon kw s i pre = scanFrom kw s j pre := by unfold goon; rw [hbs]
        rw [e0, scanFrom_goon kw s j pre (by omega)]
        cases ho : oneE kw a j with
        | error c => rw [ho] at h; cases h
        | ok r =>
          obtain ⟨⟨k, t⟩, e⟩ := r
          have hlt := oneE_lt hj ho
          simp only at hlt
          rw [ho] at h
          rw [oneP H hj ho]
          simp only at h ⊢
          exact ih (a.size - e) (by omega) e _ l (Nat.le_refl _) hlt.2 h
      · rw [hj, scanFrom_end kw a a.size pre (Nat.le_refl _)] at h
        cases h
        unfold goon
        rw [hbs]
end

/-- b stands in s, from place m on, to its end -/
structure Suf (m : Nat) (b s : ByteArray) : Prop where
  size : s.size = m + b.size
  bt : ∀ i : Nat, bt s ((m + i : Nat) : Int) = bt b (i : Int)
  at_ : ∀ i t, preAt s (m + i) t = preAt b i t
  ext : ∀ i j, s.extract (m + i) (m + j) = b.extract i j
theorem Suf.mk' {b s : ByteArray} {x : List UInt8} (h : s.data.toList = x ++ b.data.toList) : Suf x.length b s where
  size := by
    have := congrArg List.length h
    rw [List.length_append] at this
    exact this
  bt := fun i => by rw [bt_opt, bt_opt, h, List.getElem?_append_right (by omega), Nat.add_sub_cancel_left]
  at_ := fun i t => by unfold preAt; rw [h, ← List.drop_drop, List.drop_left]
  ext := fun i j => by
    apply ba_ext
    rw [ext_list, ext_list, h, ← List.drop_drop, List.drop_left, show x.length + j - (x.length + i) = j - i by omega]
section
variable {m : Nat} {b s : ByteArray}
theorem skipS (H : Suf m b s) (p : Int → Bool) : ∀ d i, skipW p s d (m + i) = m + skipW p b d i
  | 0, i => rfl
  | d + 1, i => by
    rw [skipW, skipW, H.bt i]
    split
    · exact skipS H p d (i + 1)
    · rfl
theorem whileS (H : Suf m b s) (p : Int → Bool) (i : Nat) : whileE p s (m + i) = m + whileE p b i := by
  unfold whileE
  rw [show s.size - (m + i) = b.size - i by have := H.size; omega]
  exact skipS H p _ i
theorem identS (H : Suf m b s) (i : Nat) : identE s (m + i) = m + identE b i := by
  have hz := H.size
  unfold identE
  rw [H.bt i]
  by_cases h : i < b.size
  · rw [if_pos h, if_pos (by omega)]
    split
    · exact whileS H _ i
    · rfl
  · rw [if_neg h, if_neg (by omega)]
theorem namedS (H : Suf m b s) (i : Nat) : namedE s (m + i) = m + namedE b i := by
  have hz := H.size
  unfold namedE
  rw [H.at_ i, Nat.add_assoc m i 2, identS H (i + 2), H.bt]
  split
  · by_cases h : identE b (i + 2) = i + 2 ∨ identE b (i + 2) = b.size ∨ bt b (identE b (i + 2) : Int) ≠ 62
    · rw [if_pos h, if_pos]
      rcases h with h | h | h
      · exact .inl (by omega)
      · exact .inr (.inl (by omega))
      · exact .inr (.inr h)
    · rw [if_neg h, if_neg]
      · rfl
      · rintro (h' | h' | h')
        · exact h (.inl (by omega))
        · exact h (.inr (.inl (by omega)))
        · exact h (.inr (.inr h'))
  · rfl
theorem stepS (H : Suf m b s) (x y : List UInt8) (i : Nat) : stepW s x y (m + i) = stepW b x y i ∧ stepD s x y (m + i) = stepD b x y i := by
  unfold stepW stepD
  rw [H.at_ i, H.at_ i]
  exact ⟨rfl, rfl⟩
theorem nestFS (H : Suf m b s) (x y : List UInt8) : ∀ d i deep, nestF s x y d (m + i) deep = (nestF b x y d i deep).map (m + ·) := by
  have hz := H.size
  intro d
  induction d with
  | zero => intro i deep; rfl
  | succ d ih =>
    intro i deep
    obtain ⟨e1, e2⟩ := stepS H x y i
    rw [nestF, nestF, e1, e2, Nat.add_assoc m i]
    by_cases h : i < b.size
    · rw [if_pos h, if_pos (by omega)]
      split
      · rfl
      · exact ih _ _
    · rw [if_neg h, if_neg (by omega)]; rfl
theorem nestS (H : Suf m b s) (x y : List UInt8) (i : Nat) (deep : Int) : nestE s x y (m + i) deep = (nestE b x y i deep).map (m + ·) := by
  unfold nestE
  rw [show s.size - (m + i) + 1 = b.size - i + 1 by have := H.size; omega]
  exact nestFS H x y _ i deep
def shE (m : Nat) : Except Nat Nat → Except Nat Nat
  | .ok j => .ok (m + j)
  | .error p => .error (m + p)
theorem blanksFS (H : Suf m b s) : ∀ d i, blanksF s d (m + i) = shE m (blanksF b d i) := by
  intro d
  induction d with
  | zero => intro i; rfl
  | succ d ih =>
    intro i
    rw [blanksF, blanksF, whileS H, H.at_, nestS H]
    split
    · cases nestE b [40, 42] [42, 41] (whileE blankB b i) 0 with
      | none => rfl
      | some e => exact ih e
    · rfl
theorem blanksS (H : Suf m b s) (i : Nat) : blanksE s (m + i) = shE m (blanksE b i) := by
  unfold blanksE
  rw [show s.size - (m + i) + 1 = b.size - i + 1 by have := H.size; omega]
  exact blanksFS H _ i
def shP (m : Nat) (r : Int × Nat) : Int × Nat := (r.1, m + r.2)
theorem indexS (H : Suf m b s) (i : Nat) : indexE s (m + i) = m + indexE b i := by
  have hz := H.size
  unfold indexE
  rw [H.bt i, Nat.add_assoc m i 1, whileS H]
  by_cases h : i < b.size
  · rw [if_pos h, if_pos (by omega)]
    split
    · by_cases h2 : i + 1 < whileE digitB b (i + 1)
      · rw [if_pos h2, if_pos (by omega)]
      · rw [if_neg h2, if_neg (by omega)]
    · rfl
  · rw [if_neg h, if_neg (by omega)]
theorem wordFS (H : Suf m b s) : ∀ d k e, wordF s d k (m + e) = shP m (wordF b d k e) := by
  have hz := H.size
  intro d
  induction d with
  | zero => intro k e; rfl
  | succ d ih =>
    intro k e
    rw [wordF, wordF, H.bt e, Nat.add_assoc m e 1, identS H]
    by_cases h : e < b.size
    · rw [if_pos h, if_pos (by omega)]
      split
      · by_cases h2 : identE b (e + 1) = e + 1
        · rw [if_pos h2, if_pos (by omega)]; rfl
        · rw [if_neg h2, if_neg (by omega)]; exact ih _ _
      · rfl
    · rw [if_neg h, if_neg (by omega)]; rfl
theorem namesS (H : Suf m b s) (i : Nat) : namesE s (m + i) = shP m (namesE b i) := by
  have hz := H.size
  unfold namesE
  rw [identS H]
  by_cases h : i < identE b i
  · rw [if_pos h, if_pos (by omega)]
    unfold wordE
    rw [show s.size - (m + identE b i) = b.size - identE b i by omega]
    exact wordFS H _ _ _
  · rw [if_neg h, if_neg (by omega)]; rfl
theorem markS (H : Suf m b s) (i : Nat) (t : List UInt8) : markE s (m + i) t = (markE b i t).map (m + ·) := by
  unfold markE
  rw [H.at_ i, Nat.add_assoc m i, identS H]
  split
  · by_cases h : i + t.length < identE b (i + t.length)
    · rw [if_pos h, if_pos (by omega)]; rfl
    · rw [if_neg h, if_neg (by omega)]; rfl
  · rfl
theorem varsS (H : Suf m b s) (i : Nat) : varsE s (m + i) = shP m (varsE b i) := by
  unfold varsE
  rw [markS H, markS H, markS H]
  cases markE b i [39] with
  | some e => rfl
  | none =>
    cases markE b i [63, 39] with
    | some e => show ((5 : Int), indexE s (m + e)) = _; rw [indexS H]; rfl
    | none =>
      cases markE b i [63] with
      | some e => show ((4 : Int), indexE s (m + e)) = _; rw [indexS H]; rfl
      | none => rfl
theorem symS (H : Suf m b s) (i : Nat) : symE s (m + i) = m + symE b i := by
  unfold symE runE
  rw [namedS H, whileS H, H.bt i]
  by_cases h : max (namedE b i) (whileE signB b i) = i
  · rw [if_pos h, if_pos (by omega)]
    split <;> omega
  · rw [if_neg h, if_neg (by omega)]
    omega
theorem readS (H : Suf m b s) (i : Nat) (j : Nat) : readE s (m + i) j = shP m (readE b i j) := by
  match j with
  | 0 => exact namesS H i
  | 1 => exact varsS H i
  | 2 => show ((6 : Int), whileE digitB s (m + i)) = _; rw [whileS H]; rfl
  | _ + 3 => show ((7 : Int), symE s (m + i)) = _; rw [symS H]; rfl
theorem bestS (H : Suf m b s) (i : Nat) : ∀ j, bestE s (m + i) j = shP m (bestE b i j)
  | 0 => rfl
  | j + 1 => by
    rw [bestE, bestE, bestS H i j, readS H]
    have e : ((shP m (bestE b i j)).2 < (shP m (readE b i j)).2) = ((bestE b i j).2 < (readE b i j).2) := by
      unfold shP
      simp only
      rw [Nat.add_lt_add_iff_left]
    by_cases h : (bestE b i j).2 < (readE b i j).2
    · rw [if_pos h, if_pos (by rw [e]; exact h)]
    · rw [if_neg h, if_neg (by rw [e]; exact h)]
def shT (m : Nat) (t : Tok) : Tok := ⟨t.kind, t.text, m + t.at_⟩
def shX (m : Nat) (r : List UInt8 × Nat) : List UInt8 × Nat := (r.1, m + r.2)
theorem textFS (H : Suf m b s) : ∀ d i out, textF s d (m + i) out = (textF b d i out).map (shX m) := by
  have hz := H.size
  intro d
  induction d with
  | zero => intro i out; rfl
  | succ d ih =>
    intro i out
    rw [textF, textF, H.bt i, Nat.add_assoc m i 1, Nat.add_assoc m i 2, H.bt (i + 1), ih, ih, ih]
    by_cases h : i < b.size
    · rw [if_pos h, if_pos (by omega)]
      split
      · rfl
      · split
        · rfl
        · split
          · by_cases h2 : i + 1 < b.size
            · rw [if_pos h2, if_pos (by omega)]
              split
              · rfl
              · split <;> rfl
            · rw [if_neg h2, if_neg (by omega)]; rfl
          · rfl
    · rw [if_neg h, if_neg (by omega)]; rfl
theorem textS (H : Suf m b s) (i : Nat) (out : List UInt8) : textE s (m + i) out = (textE b i out).map (shX m) := by
  unfold textE
  rw [show s.size - (m + i) = b.size - i by have := H.size; omega]
  exact textFS H _ i out
def shO (m : Nat) : Except Int ((Int × ByteArray) × Nat) → Except Int ((Int × ByteArray) × Nat)
  | .ok (t, e) => .ok (t, m + e)
  | .error c => .error c
theorem oneS (H : Suf m b s) (kw : List UInt8 → Bool) {i : Nat} (hi : i < b.size) : oneE kw s (m + i) = shO m (oneE kw b i) := by
  unfold oneE
  rw [H.bt i, H.at_ i, Nat.add_assoc m i 1, textS H, nestS H, bestS H]
  split
  · cases textE b (i + 1) [] with
    | none => rfl
    | some r => rfl
  · split
    · rename_i hp
      cases hn : nestE b opened closed i 0 with
      | none => rfl
      | some e =>
        have := nestE_both (Nat.le_of_lt hi) hp hn
        simp only [opened, closed, List.length_cons, List.length_nil] at this
        simp only [Option.map_some]
        rw [Nat.add_assoc m i 7, show m + e - 8 = m + (e - 8) by omega, H.ext]
        rfl
    · have e1 : (shP m (bestE b i 4)).2 = m + (bestE b i 4).2 := rfl
      have e2 : (shP m (bestE b i 4)).1 = (bestE b i 4).1 := rfl
      rw [e1, e2, H.ext]
      by_cases h : (bestE b i 4).2 = i ∨ (b.extract i (bestE b i 4).2).data.toList = closed
      · rw [if_pos h, if_pos (by rcases h with h | h; exact .inl (by omega); exact .inr h)]; rfl
      · rw [if_neg h, if_neg (by rintro (h' | h'); exact h (.inl (by omega)); exact h (.inr h'))]; rfl
def shR (m : Nat) (l : List Tok) (r : List Tok × Option (Nat × Int)) : List Tok × Option (Nat × Int) := (l ++ r.1.map (shT m), r.2.map (fun x => (m + x.1, x.2)))
theorem scanFS (H : Suf m b s) (kw : List UInt8 → Bool) (l : List Tok) : ∀ d i pre, scanF kw s d (m + i) (l ++ pre.map (shT m)) = shR m l (scanF kw b d i pre) := by
  have hz := H.size
  intro d
  induction d with
  | zero => intro i pre; rfl
  | succ d ih =>
    intro i pre
    rw [scanF, scanF]
    by_cases h : i < b.size
    · rw [if_pos h, if_pos (by omega), oneS H kw h]
      cases oneE kw b i with
      | error c => rfl
      | ok r =>
        obtain ⟨⟨k, t⟩, e⟩ := r
        simp only [shO]
        rw [blanksS H]
        have ep : l ++ pre.map (shT m) ++ [(⟨k, t, m + i⟩ : Tok)] = l ++ (pre ++ [(⟨k, t, i⟩ : Tok)]).map (shT m) := by
          rw [List.map_append, List.append_assoc]; rfl
        rw [ep]
        cases blanksE b e with
        | error p => rfl
        | ok j => exact ih j _
    · rw [if_neg h, if_neg (by omega)]; rfl
theorem goonS (H : Suf m b s) (kw : List UInt8 → Bool) (l : List Tok) (i : Nat) (pre : List Tok) : goon kw s (m + i) (l ++ pre.map (shT m)) = shR m l (goon kw b i pre) := by
  unfold goon
  rw [blanksS H]
  cases blanksE b i with
  | error p => rfl
  | ok j =>
    show scanFrom kw s (m + j) _ = shR m l (scanFrom kw b j pre)
    unfold scanFrom
    rw [show s.size - (m + j) + 1 = b.size - j + 1 by have := H.size; omega]
    exact scanFS H kw l _ j pre
end
/-- two texts with a blank between them: the tokens of both, if the first one has no error -/
theorem scan_parts {a b s : ByteArray} {c : UInt8} (H : Sep a b s c) (kw : List UInt8 → Bool) {l : List Tok} (h : scanE kw a = (l, none)) :
    scanE kw s = (l ++ (scanE kw b).1.map (shT (a.size + 1)), (scanE kw b).2.map (fun x => (a.size + 1 + x.1, x.2))) := by
  rw [scan_goon] at h ⊢
  rw [goonP H kw _ 0 [] l (Nat.le_refl _) (Nat.zero_le _) h]
  have S : Suf (a.size + 1) b s := by
    have := Suf.mk' (b := b) (s := s) (x := a.data.toList ++ [c]) (by rw [H.eq]; simp)
    rw [List.length_append] at this
    exact this
  have := goonS S kw l 0 []
  rw [List.map_nil, List.append_nil] at this
  exact this
end Go.Proofs.YtmkfeanggmjhmaaGreat.Q
namespace Go.Proofs.YtmkfeanggmjhmaaGreat.Q
set_option linter.unusedSimpArgs false
set_option linter.unusedVariables false
open Go Go.RowKit Go.Proofs.YtmkfeanggmjhmaaGreatW.PrintWords Go.Proofs.YtmkfeanggmjhmaaGreat.M

theorem one_err {kw : List UInt8 → Bool} {s : ByteArray} {i : Nat} {c : Int} (h : oneE kw s i = .error c) : c = 160 ∨ c = 161 := by
  unfold oneE at h
  split at h
  · split at h
    · cases h
    · cases h; exact .inr rfl
  · split at h
    · split at h
      · cases h
      · cases h; exact .inr rfl
    · split at h
      · cases h; exact .inl rfl
      · cases h
theorem goon_bounds (kw : List UInt8 → Bool) (s : ByteArray) : ∀ d i pre, s.size - i ≤ d → i ≤ s.size →
    (∃ more : List Tok, (goon kw s i pre).1 = pre ++ more ∧ more.length ≤ s.size - i ∧ ∀ t ∈ more, t.at_ < s.size) ∧ ∀ q c, (goon kw s i pre).2 = some (q, c) → q ≤ s.size ∧ (c = 160 ∨ c = 161 ∨ c = 162) := by
  intro d
  induction d using Nat.strongRecOn with
  | _ d ih =>
    intro i pre hd hi
    cases hb : blanksE s i with
    | error p =>
      have e : goon kw s i pre = (pre, some (p, 162)) := by unfold goon; rw [hb]
      rw [e]
      refine ⟨⟨[], by simp, by simp, by simp⟩, fun q c h => ?_⟩
      cases h
      exact ⟨(blanksE_le' hi hb).2, .inr (.inr rfl)⟩
    | ok j =>
      have hj := blanksE_le hi hb
      have e : goon kw s i pre = scanFrom kw s j pre := by unfold goon; rw [hb]
      rw [e]
      by_cases hlt : j < s.size
      · rw [scanFrom_goon kw s j pre hlt]
        cases ho : oneE kw s j with
        | error c0 =>
          refine ⟨⟨[], by simp, by simp, by simp⟩, fun q c h => ?_⟩
          cases h
          rcases one_err ho with h | h
          · exact ⟨hj.2, .inl h⟩
          · exact ⟨hj.2, .inr (.inl h)⟩
        | ok r =>
          obtain ⟨⟨k, t⟩, en⟩ := r
          have h1 := oneE_lt hlt ho
          simp only at h1 ⊢
          obtain ⟨⟨more, h2, h3, h4⟩, h5⟩ := ih (s.size - en) (by omega) en (pre ++ [⟨k, t, j⟩]) (Nat.le_refl _) h1.2
          refine ⟨⟨⟨k, t, j⟩ :: more, by rw [h2]; simp, by simp only [List.length_cons]; omega, fun u hu => ?_⟩, h5⟩
          rcases List.mem_cons.1 hu with rfl | hu
          · exact hlt
          · exact h4 u hu
      · rw [scanFrom_end kw s j pre (by omega)]
        exact ⟨⟨[], by simp, by simp, by simp⟩, fun q c h => by cases h⟩
theorem scan_bounds (kw : List UInt8 → Bool) (s : ByteArray) : (scanE kw s).1.length ≤ s.size ∧ (∀ t ∈ (scanE kw s).1, t.at_ < s.size) ∧ ∀ q c, (scanE kw s).2 = some (q, c) → q ≤ s.size ∧ (c = 160 ∨ c = 161 ∨ c = 162) := by
  obtain ⟨⟨more, h1, h2, h3⟩, h4⟩ := goon_bounds kw s _ 0 [] (Nat.le_refl _) (Nat.zero_le _)
  rw [scan_goon, h1, List.nil_append]
  exact ⟨by omega, h3, h4⟩
end Go.Proofs.YtmkfeanggmjhmaaGreat.Q
