/- A token that is read is written as it stands.  It names no program. -/
import Derived.Test.YtmkfeanggmjhmaaGreatWr1
namespace Go.Proofs.YtmkfeanggmjhmaaGreat.Pl
open Go Go.RowKit Go.Proofs.YtmkfeanggmjhmaaGreatW.PrintWords Go.Proofs.YtmkfeanggmjhmaaGreat.M Go.Proofs.YtmkfeanggmjhmaaGreat.Q Go.Proofs.YtmkfeanggmjhmaaGreat.Rp Go.Proofs.YtmkfeanggmjhmaaGreat.Wr
set_option linter.unusedSimpArgs false
set_option linter.unusedVariables false

theorem ext_step (s : ByteArray) (i j : Nat) (h : i < j) (hj : j ≤ s.size) : (s.extract i j).data.toList = (bt s (i : Int)).toNat.toUInt8 :: (s.extract (i + 1) j).data.toList := by
  have hi : i < s.data.toList.length := by rw [size_len]; omega
  have hb : (bt s (i : Int)).toNat.toUInt8 = s.data.toList[i]'hi := by
    rw [bt_opt, List.getElem?_eq_getElem hi]
    simp
  rw [ext_list, ext_list, hb, List.drop_eq_getElem_cons hi, show j - i = (j - (i + 1)) + 1 by omega, List.take_succ_cons]
theorem bt_u8 {s : ByteArray} {i n : Nat} (h : bt s (i : Int) = n) : (bt s (i : Int)).toNat.toUInt8 = n.toUInt8 := by rw [h, Int.toNat_natCast]
theorem spec_none {c : UInt8} (h1 : c ≠ 10) (h2 : c ≠ 92) (h3 : c ≠ 34) : esc c = [c] := by
  unfold esc spec
  rw [if_neg h1, if_neg h2, if_neg h3]
theorem bt_range (s : ByteArray) (i : Nat) : 0 ≤ bt s (i : Int) ∧ bt s (i : Int) < 256 := by
  rw [bt_opt]
  cases s.data.toList[i]? with
  | none => exact ⟨by decide, by decide⟩
  | some x =>
    have := x.toNat_lt
    simp only [Option.map_some, Option.getD_some]
    omega
theorem u8_ne {s : ByteArray} {i n : Nat} (hn : n < 256) (h : bt s (i : Int) ≠ n) : (bt s (i : Int)).toNat.toUInt8 ≠ n.toUInt8 := by
  obtain ⟨h1, h2⟩ := bt_range s i
  intro e
  apply h
  have := congrArg UInt8.toNat e
  rw [Nat.toUInt8_eq, Nat.toUInt8_eq, UInt8.toNat_ofNat', UInt8.toNat_ofNat'] at this
  omega
/-- a string is written as it stands -/
theorem text_spell (s : ByteArray) : ∀ d i out l j, s.size - i ≤ d → textE s i out = some (l, j) → ∃ m, l = out ++ m ∧ (s.extract i j).data.toList = escL m ++ [34] := by
  intro d
  induction d using Nat.strongRecOn with
  | _ d ih =>
    intro i out l j hd h
    have hlt := textE_lt h
    simp only at hlt
    have hi : i < s.size := by omega
    rw [textE_eq s i out hi] at h
    have hst := ext_step s i j hlt.1 hlt.2
    split at h
    · cases h
    · rename_i h1
      split at h
      · rename_i h2
        cases h
        refine ⟨[], by simp, ?_⟩
        rw [hst, bt_u8 (n := 34) h2]
        have : (s.extract (i + 1) (i + 1)).data.toList = [] := by rw [ext_list]; simp
        rw [this]
        rfl
      · rename_i h2
        split at h
        · rename_i h3
          split at h
          · rename_i h4
            split at h
            · rename_i h5
              have hl2 := textE_lt h
              simp only at hl2
              obtain ⟨m, e1, e2⟩ := ih (s.size - (i + 2)) (by omega) (i + 2) _ _ _ (Nat.le_refl _) h
              refine ⟨10 :: m, by rw [e1]; simp, ?_⟩
              rw [hst, bt_u8 (n := 92) h3, ext_step s (i + 1) j (by omega) hlt.2, bt_u8 (n := 110) h5, e2]
              rfl
            · rename_i h5
              split at h
              · rename_i h6
                have hl2 := textE_lt h
                simp only at hl2
                obtain ⟨m, e1, e2⟩ := ih (s.size - (i + 2)) (by omega) (i + 2) _ _ _ (Nat.le_refl _) h
                refine ⟨(bt s ((i + 1 : Nat) : Int)).toNat.toUInt8 :: m, by rw [e1]; simp, ?_⟩
                rw [hst, bt_u8 (n := 92) h3, ext_step s (i + 1) j (by omega) hlt.2, e2]
                rcases h6 with h6 | h6
                · rw [bt_u8 (n := 34) h6]; rfl
                · rw [bt_u8 (n := 92) h6]; rfl
              · cases h
          · cases h
        · rename_i h3
          obtain ⟨m, e1, e2⟩ := ih (s.size - (i + 1)) (by omega) (i + 1) _ _ _ (Nat.le_refl _) h
          refine ⟨(bt s (i : Int)).toNat.toUInt8 :: m, by rw [e1]; simp, ?_⟩
          rw [hst, e2]
          have he := spec_none (u8_ne (n := 10) (by decide) h1) (u8_ne (n := 92) (by decide) h3) (u8_ne (n := 34) (by decide) h2)
          unfold escL
          rw [List.flatMap_cons, he]
          rfl
theorem nest_closes (s : ByteArray) (x y : List UInt8) : ∀ d i deep r, 1 ≤ deep → i ≤ s.size → nestF s x y d i deep = some r → y.length ≤ r ∧ preAt s (r - y.length) y = true := by
  intro d
  induction d with
  | zero => intro i deep r _ _ h; simp [nestF] at h
  | succ d ih =>
    intro i deep r hdp hi h
    unfold nestF at h
    split at h
    · rename_i hlt
      split at h
      · rename_i h0
        cases h
        unfold stepD at h0
        split at h0
        · omega
        · rename_i hx
          split at h0
          · rename_i hy
            have : stepW s x y i = y.length := by unfold stepW; rw [if_neg hx, if_pos hy]
            rw [this]
            exact ⟨by omega, by rw [Nat.add_sub_cancel]; exact hy⟩
          · omega
      · rename_i h0
        have := stepD_range s x y i
        exact ih _ _ r (by omega) (stepW_le s x y i hlt) h
    · cases h
theorem kind_word (s : ByteArray) : ∀ d k e, k = 1 ∨ k = 2 → (wordF s d k e).1 = 1 ∨ (wordF s d k e).1 = 2 := by
  intro d
  induction d with
  | zero => intro k e h; exact h
  | succ d ih =>
    intro k e h
    unfold wordF
    split
    · split
      · split
        · exact h
        · exact ih 2 _ (.inr rfl)
      · exact h
    · exact h
theorem k89 (c : Int) (e : Nat) (h : (decide (c ≠ 8) && decide (c ≠ 9)) = true) : (c, e).1 ≠ 8 ∧ (c, e).1 ≠ 9 := by
  simpa using h
theorem kind_read (s : ByteArray) (i j : Nat) : (readE s i j).1 ≠ 8 ∧ (readE s i j).1 ≠ 9 := by
  match j with
  | 0 =>
    show (namesE s i).1 ≠ 8 ∧ (namesE s i).1 ≠ 9
    unfold namesE
    split
    · rcases kind_word s (s.size - identE s i) 1 (identE s i) (.inl rfl) with h | h <;> unfold wordE <;> rw [h] <;> exact ⟨by decide, by decide⟩
    · exact k89 1 _ rfl
  | 1 =>
    show (varsE s i).1 ≠ 8 ∧ (varsE s i).1 ≠ 9
    unfold varsE
    split
    · exact k89 3 _ rfl
    · split
      · exact k89 5 _ rfl
      · split
        · exact k89 4 _ rfl
        · exact k89 0 _ rfl
  | 2 => exact k89 6 _ rfl
  | _ + 3 => exact k89 7 _ rfl
theorem kind_best (s : ByteArray) (i : Nat) : ∀ j, (bestE s i j).1 ≠ 8 ∧ (bestE s i j).1 ≠ 9
  | 0 => k89 0 _ rfl
  | j + 1 => by
    rw [bestE]
    split
    · exact kind_read s i j
    · exact kind_best s i j
theorem pre_ext {s : ByteArray} {i : Nat} {t : List UInt8} (h : preAt s i t = true) : (s.extract i (i + t.length)).data.toList = t := by
  unfold preAt at h
  rw [List.isPrefixOf_iff_prefix, List.prefix_iff_eq_take] at h
  rw [ext_list, Nat.add_sub_cancel_left]
  exact h.symm
theorem ext_cat (s : ByteArray) (i j k : Nat) (h1 : i ≤ j) (h2 : j ≤ k) : (s.extract i k).data.toList = (s.extract i j).data.toList ++ (s.extract j k).data.toList := by
  rw [ext_list, ext_list, ext_list, show k - i = (j - i) + (k - j) by omega, List.take_add, List.drop_drop, show i + (j - i) = j by omega]
theorem one_spell {p : List UInt8 → Bool} {s : ByteArray} {i : Nat} (hi : i < s.size) {k : Int} {t : ByteArray} {e : Nat} (h : oneE p s i = .ok ((k, t), e)) : spell k t = s.extract i e := by
  have hlt := oneE_lt hi h
  simp only at hlt
  unfold oneE at h
  split at h
  · rename_i h1
    cases ht : textE s (i + 1) [] with
    | none => rw [ht] at h; cases h
    | some r =>
      obtain ⟨l, j⟩ := r
      rw [ht] at h
      simp only [Except.ok.injEq, Prod.mk.injEq] at h
      obtain ⟨⟨rfl, rfl⟩, rfl⟩ := h
      obtain ⟨m, e1, e2⟩ := text_spell s _ _ _ _ _ (Nat.le_refl _) ht
      rw [List.nil_append] at e1
      subst e1
      apply ba_ext
      rw [ext_step s i j hlt.1 hlt.2, e2, bt_u8 (n := 34) h1]
      rfl
  · rename_i h1
    split at h
    · rename_i h2
      cases ht : nestE s M.opened M.closed i 0 with
      | none => rw [ht] at h; cases h
      | some j =>
        rw [ht] at h
        simp only [Except.ok.injEq, Prod.mk.injEq] at h
        obtain ⟨⟨rfl, rfl⟩, rfl⟩ := h
        have hb := nestE_both (Nat.le_of_lt hi) h2 ht
        have hol : M.opened.length = 7 := rfl
        have hcl : M.closed.length = 8 := rfl
        have hd1 : stepD s M.opened M.closed i = 1 := by unfold stepD; rw [if_pos h2]
        have hw1 : stepW s M.opened M.closed i = 7 := by unfold stepW; rw [if_pos h2]; rfl
        have hc : 8 ≤ j ∧ preAt s (j - 8) M.closed = true := by
          rw [nestE_step s M.opened M.closed (by decide) (by decide) i 0 hi (by rw [hd1]; decide), hd1, hw1] at ht
          exact nest_closes s M.opened M.closed _ _ _ j (by decide) (by omega) ht
        have e1 := pre_ext h2
        have e2 := pre_ext hc.2
        rw [hcl, show j - 8 + 8 = j by omega] at e2
        rw [hol] at e1
        apply ba_ext
        rw [ext_cat s i (i + 7) j (by omega) (by omega), ext_cat s (i + 7) (j - 8) j (by omega) (by omega), e1, e2]
        rfl
    · split at h
      · cases h
      · simp only [Except.ok.injEq, Prod.mk.injEq] at h
        obtain ⟨⟨hk, rfl⟩, rfl⟩ := h
        have hb := kind_best s i 4
        have h8 : k ≠ 8 ∧ k ≠ 9 := by
          rw [← hk]
          split
          · exact ⟨by decide, by decide⟩
          · exact hb
        unfold spell
        rw [if_neg h8.2, if_neg h8.1]
theorem pre_cut (s : ByteArray) (e : Nat) (he : e ≤ s.size) : Pre (s.extract 0 e) s := by
  have h : s.data.toList = (s.extract 0 e).data.toList ++ s.data.toList.drop e := by
    rw [ext_list, List.drop_zero, Nat.sub_zero, List.take_append_drop]
  exact Pre.mk' h
theorem cut_size (s : ByteArray) (i e : Nat) (he : e ≤ s.size) : (s.extract i e).size = e - i := by
  rw [ByteArray.size_extract]; omega
theorem suf_cut (s : ByteArray) (i e : Nat) (hi : i ≤ e) (he : e ≤ s.size) : Suf i (s.extract i e) (s.extract 0 e) := by
  have hl : (s.extract 0 i).data.toList.length = i := by rw [size_len, cut_size s 0 i (by omega)]; omega
  have := Suf.mk' (b := s.extract i e) (s := s.extract 0 e) (x := (s.extract 0 i).data.toList) (ext_cat s 0 i e (Nat.zero_le _) hi)
  rwa [hl] at this
/-- a token, cut out, is one token -/
theorem scan_cut {p : List UInt8 → Bool} {s : ByteArray} {i : Nat} (hi : i < s.size) (hb : blanksE s i = .ok i) {k : Int} {t : ByteArray} {e : Nat} (h : oneE p s i = .ok ((k, t), e)) : scanE p (s.extract i e) = ([⟨k, t, 0⟩], none) := by
  have hlt := oneE_lt hi h
  simp only at hlt
  have P := pre_cut s e hlt.2
  have S := suf_cut s i e (by omega) hlt.2
  have za : (s.extract 0 e).size = e := by rw [cut_size s 0 e hlt.2]; omega
  have zu : (s.extract i e).size = e - i := cut_size s i e hlt.2
  have h1 := oneT P (by rw [za]; exact hlt.1) h (by rw [za]; exact Nat.le_refl _)
  have h2 := oneS S p (i := 0) (by rw [zu]; omega)
  rw [Nat.add_zero, h1] at h2
  have b1 := blanksT P (by rw [za]; omega) hb
  have b2 := blanksS S 0
  rw [Nat.add_zero, b1] at b2
  generalize s.extract i e = u at *
  have h3 : oneE p u 0 = .ok ((k, t), u.size) := by
    cases ho : oneE p u 0 with
    | error c => rw [ho] at h2; cases h2
    | ok r =>
      obtain ⟨r1, r2⟩ := r
      rw [ho] at h2
      simp only [shO, Except.ok.injEq, Prod.mk.injEq] at h2
      obtain ⟨rfl, h4⟩ := h2
      rw [zu, show e - i = r2 by omega]
  have b3 : blanksE u 0 = .ok 0 := by
    cases ho : blanksE u 0 with
    | error c => rw [ho] at b2; cases b2
    | ok r =>
      rw [ho] at b2
      simp only [shE, Except.ok.injEq] at b2
      rw [show r = 0 by omega]
  have b4 : blanksE u u.size = .ok u.size := by
    have hp : preAt u u.size [40, 42] = false := by
      rw [Bool.eq_false_iff]
      intro hp
      have := preAt_le hp (Nat.le_refl _)
      simp only [List.length_cons, List.length_nil] at this
      omega
    rw [blanksE_none u u.size (by rw [whileE_end _ _ _ (Nat.le_refl _)]; exact hp), whileE_end _ _ _ (Nat.le_refl _)]
  unfold scanE
  rw [b3]
  simp only
  rw [scanFrom_eq p u 0 [] (by omega), h3]
  simp only
  rw [b4]
  simp only
  rw [scanFrom_end _ _ _ _ (Nat.le_refl _)]
  rfl
/-- tokens as they stand in a text, from a place on -/
def Chain (p : List UInt8 → Bool) (s : ByteArray) : Nat → List Tok → Prop
  | _, [] => True
  | i, x :: r => i ≤ x.at_ ∧ x.at_ < s.size ∧ blanksE s x.at_ = .ok x.at_ ∧ ∃ e, oneE p s x.at_ = .ok ((x.kind, x.text), e) ∧ e ≤ s.size ∧ Chain p s e r
theorem goon_chain (p : List UInt8 → Bool) (s : ByteArray) : ∀ d i pre l, s.size - i ≤ d → i ≤ s.size → goon p s i pre = (l, none) → ∃ more, l = pre ++ more ∧ Chain p s i more := by
  intro d
  induction d using Nat.strongRecOn with
  | _ d ih =>
    intro i pre l hd hi h
    cases hb : blanksE s i with
    | error q => unfold goon at h; rw [hb] at h; cases h
    | ok j =>
      have hj := blanksE_le hi hb
      unfold goon at h
      rw [hb] at h
      simp only at h
      by_cases hlt : j < s.size
      · rw [scanFrom_goon p s j pre hlt] at h
        cases ho : oneE p s j with
        | error c => rw [ho] at h; cases h
        | ok r =>
          obtain ⟨⟨k, t⟩, e⟩ := r
          have h1 := oneE_lt hlt ho
          simp only at h1
          rw [ho] at h
          simp only at h
          obtain ⟨more, e1, e2⟩ := ih (s.size - e) (by omega) e _ l (Nat.le_refl _) h1.2 h
          refine ⟨⟨k, t, j⟩ :: more, by rw [e1]; simp, hj.1, hlt, blanks_again _ i j (Nat.le_refl _) hi hb, e, ho, h1.2, e2⟩
      · rw [scanFrom_end p s j pre (by omega)] at h
        cases h
        exact ⟨[], by simp, trivial⟩
theorem scan_chain {p : List UInt8 → Bool} {s : ByteArray} {l : List Tok} (h : scanE p s = (l, none)) : Chain p s 0 l := by
  rw [scan_goon] at h
  obtain ⟨more, e1, e2⟩ := goon_chain p s _ 0 [] l (Nat.le_refl _) (Nat.zero_le _) h
  rw [List.nil_append] at e1
  subst e1
  exact e2
/-- what writing such a token returns -/
theorem write_one {p : List UInt8 → Bool} {s : ByteArray} (hs : s.size ≤ 40000) {i : Nat} (hi : i < s.size) (hb : blanksE s i = .ok i) {k : Int} {t : ByteArray} {e : Nat} (h : oneE p s i = .ok ((k, t), e)) : writeE p k t = (s.extract i e, 0) := by
  have hlt := oneE_lt hi h
  simp only at hlt
  unfold writeE
  rw [one_spell hi h, scan_cut hi hb h, if_neg (by rw [cut_size s i e hlt.2]; omega)]
  simp only
  rw [if_pos]
  unfold tokB
  simp
end Go.Proofs.YtmkfeanggmjhmaaGreat.Pl
