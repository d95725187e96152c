/- A token that is read is written as it stands.  It names no program. -/
import Derived.Test.YtmkfeanggmjhmaaGreatWr1
import Derived.Test.YtmkfeanggmjhmaaGreatRw
import Derived.Deep.LoopGhost
namespace Go.Proofs.YtmkfeanggmjhmaaGreat.Pl
open Go Go.RowKit Go.Proofs.YtmkfeanggmjhmaaGreatW.PrintWords Go.Proofs.YtmkfeanggmjhmaaGreat.M Go.Proofs.YtmkfeanggmjhmaaGreat.Q Go.Proofs.YtmkfeanggmjhmaaGreat.Rp Go.Proofs.YtmkfeanggmjhmaaGreat.Wr
set_option linter.unusedSimpArgs false
set_option linter.unusedVariables false

theorem ext_step (s : ByteArray) (i j : Nat) (h : i < j) (hj : j ≤ s.size) : (s.extract i j).data.toList = (bt s (i : Int)).toNat.toUInt8 :: (s.extract (i + 1) j).data.toList := by
  have hi : i < s.data.toList.length := by rw [size_len]; omega
  have hb : (bt s (i : Int)).toNat.toUInt8 = s.data.toList[i]'hi := by
    rw [bt_opt, List.getElem?_eq_getElem hi]
    simp
  rw [ext_list, ext_list, hb, List.drop_eq_getElem_cons hi, show j - i = (j - (i + 1)) + 1 by omega, List.take_succ_cons]
theorem bt_u8 {s : ByteArray} {i n : Nat} (h : bt s (i : Int) = n) : (bt s (i : Int)).toNat.toUInt8 = n.toUInt8 := by rw [h, Int.toNat_natCast]
theorem spec_none {c : UInt8} (h1 : c ≠ 10) (h2 : c ≠ 92) (h3 : c ≠ 34) : esc c = [c] := by
  unfold esc spec
  rw [if_neg h1, if_neg h2, if_neg h3]
theorem bt_range (s : ByteArray) (i : Nat) : 0 ≤ bt s (i : Int) ∧ bt s (i : Int) < 256 := by
  rw [bt_opt]
  cases s.data.toList[i]? with
  | none => exact ⟨by decide, by decide⟩
  | some x =>
    have := x.toNat_lt
    simp only [Option.map_some, Option.getD_some]
    omega
theorem u8_ne {s : ByteArray} {i n : Nat} (hn : n < 256) (h : bt s (i : Int) ≠ n) : (bt s (i : Int)).toNat.toUInt8 ≠ n.toUInt8 := by
  obtain ⟨h1, h2⟩ := bt_range s i
  intro e
  apply h
  have := congrArg UInt8.toNat e
  rw [Nat.toUInt8_eq, Nat.toUInt8_eq, UInt8.toNat_ofNat', UInt8.toNat_ofNat'] at this
  omega
/-- a string is written as it stands -/
theorem text_spell (s : ByteArray) : ∀ d i out l j, s.size - i ≤ d → textE s i out = some (l, j) → ∃ m, l = out ++ m ∧ (s.extract i j).data.toList = escL m ++ [34] := by
  intro d
  induction d using Nat.strongRecOn with
  | _ d ih =>
    intro i out l j hd h
    have hlt := textE_lt h
    simp only at hlt
    have hi : i < s.size := by omega
    rw [textE_eq s i out hi] at h
    have hst := ext_step s i j hlt.1 hlt.2
    split at h
    · cases h
    · rename_i h1
      split at h
      · rename_i h2
        cases h
        refine ⟨[], by simp, ?_⟩
        rw [hst, bt_u8 (n := 34) h2]
        have : (s.extract (i + 1) (i + 1)).data.toList = [] := by rw [ext_list]; simp
        rw [this]
        rfl
      · rename_i h2
        split at h
        · rename_i h3
          split at h
          · rename_i h4
            split at h
            · rename_i h5
              have hl2 := textE_lt h
              simp only at hl2
              obtain ⟨m, e1, e2⟩ := ih (s.size - (i + 2)) (by omega) (i + 2) _ _ _ (Nat.le_refl _) h
              refine ⟨10 :: m, by rw [e1]; simp, ?_⟩
              rw [hst, bt_u8 (n := 92) h3, ext_step s (i + 1) j (by omega) hlt.2, bt_u8 (n := 110) h5, e2]
              rfl
            · rename_i h5
              split at h
              · rename_i h6
                have hl2 := textE_lt h
                simp only at hl2
                obtain ⟨m, e1, e2⟩ := ih (s.size - (i + 2)) (by omega) (i + 2) _ _ _ (Nat.le_refl _) h
                refine ⟨(bt s ((i + 1 : Nat) : Int)).toNat.toUInt8 :: m, by rw [e1]; simp, ?_⟩
                rw [hst, bt_u8 (n := 92) h3, ext_step s (i + 1) j (by omega) hlt.2, e2]
                rcases h6 with h6 | h6
                · rw [bt_u8 (n := 34) h6]; rfl
                · rw [bt_u8 (n := 92) h6]; rfl
              · cases h
          · cases h
        · rename_i h3
          obtain ⟨m, e1, e2⟩ := ih (s.size - (i + 1)) (by omega) (i + 1) _ _ _ (Nat.le_refl _) h
          refine ⟨(bt s (i : Int)).toNat.toUInt8 :: m, by rw [e1]; simp, ?_⟩
          rw [hst, e2]
          have he := spec_none (u8_ne (n := 10) (by decide) h1) (u8_ne (n := 92) (by decide) h3) (u8_ne (n := 34) (by decide) h2)
          unfold escL
          rw [List.flatMap_cons, he]
          rfl
theorem nest_closes (s : ByteArray) (x y : List UInt8) : ∀ d i deep r, 1 ≤ deep → i ≤ s.size → nestF s x y d i deep = some r → y.length ≤ r ∧ preAt s (r - y.length) y = true := by
  intro d
  induction d with
  | zero => intro i deep r _ _ h; simp [nestF] at h
  | succ d ih =>
    intro i deep r hdp hi h
    unfold nestF at h
    split at h
    · rename_i hlt
      split at h
      · rename_i h0
        cases h
        unfold stepD at h0
        split at h0
        · omega
        · rename_i hx
          split at h0
          · rename_i hy
            have : stepW s x y i = y.length := by unfold stepW; rw [if_neg hx, if_pos hy]
            rw [this]
            exact ⟨by omega, by rw [Nat.add_sub_cancel]; exact hy⟩
          · omega
      · rename_i h0
        have := stepD_range s x y i
        exact ih _ _ r (by omega) (stepW_le s x y i hlt) h
    · cases h
theorem kind_word (s : ByteArray) : ∀ d k e, k = 1 ∨ k = 2 → (wordF s d k e).1 = 1 ∨ (wordF s d k e).1 = 2 := by
  intro d
  induction d with
  | zero => intro k e h; exact h
  | succ d ih =>
    intro k e h
    unfold wordF
    split
    · split
      · split
        · exact h
        · exact ih 2 _ (.inr rfl)
      · exact h
    · exact h
theorem k89 (c : Int) (e : Nat) (h : (decide (c ≠ 8) && decide (c ≠ 9)) = true) : (c, e).1 ≠ 8 ∧ (c, e).1 ≠ 9 := by
  simpa using h
theorem kind_read (s : ByteArray) (i j : Nat) : (readE s i j).1 ≠ 8 ∧ (readE s i j).1 ≠ 9 := by
  match j with
  | 0 =>
    show (namesE s i).1 ≠ 8 ∧ (namesE s i).1 ≠ 9
    unfold namesE
    split
    · rcases kind_word s (s.size - identE s i) 1 (identE s i) (.inl rfl) with h | h <;> unfold wordE <;> rw [h] <;> exact ⟨by decide, by decide⟩
    · exact k89 1 _ rfl
  | 1 =>
    show (varsE s i).1 ≠ 8 ∧ (varsE s i).1 ≠ 9
    unfold varsE
    split
    · exact k89 3 _ rfl
    · split
      · exact k89 5 _ rfl
      · split
        · exact k89 4 _ rfl
        · exact k89 0 _ rfl
  | 2 => exact k89 6 _ rfl
  | _ + 3 => exact k89 7 _ rfl
theorem kind_best (s : ByteArray) (i : Nat) : ∀ j, (bestE s i j).1 ≠ 8 ∧ (bestE s i j).1 ≠ 9
  | 0 => k89 0 _ rfl
  | j + 1 => by
    rw [bestE]
    split
    · exact kind_read s i j
    · exact kind_best s i j
theorem pre_ext {s : ByteArray} {i : Nat} {t : List UInt8} (h : preAt s i t = true) : (s.extract i (i + t.length)).data.toList = t := by
  unfold preAt at h
  rw [List.isPrefixOf_iff_prefix, List.prefix_iff_eq_take] at h
  rw [ext_list, Nat.add_sub_cancel_left]
  exact h.symm
theorem ext_cat (s : ByteArray) (i j k : Nat) (h1 : i ≤ j) (h2 : j ≤ k) : (s.extract i k).data.toList = (s.extract i j).data.toList ++ (s.extract j k).data.toList := by
  rw [ext_list, ext_list, ext_list, show k - i = (j - i) + (k - j) by omega, List.take_add, List.drop_drop, show i + (j - i) = j by omega]
theorem one_spell {p : List UInt8 → Bool} {s : ByteArray} {i : Nat} (hi : i < s.size) {k : Int} {t : ByteArray} {e : Nat} (h : oneE p s i = .ok ((k, t), e)) : spell k t = s.extract i e := by
  have hlt := oneE_lt hi h
  simp only at hlt
  unfold oneE at h
  split at h
  · rename_i h1
    cases ht : textE s (i + 1) [] with
    | none => rw [ht] at h; cases h
    | some r =>
      obtain ⟨l, j⟩ := r
      rw [ht] at h
      simp only [Except.ok.injEq, Prod.mk.injEq] at h
      obtain ⟨⟨rfl, rfl⟩, rfl⟩ := h
      obtain ⟨m, e1, e2⟩ := text_spell s _ _ _ _ _ (Nat.le_refl _) ht
      rw [List.nil_append] at e1
      subst e1
      apply ba_ext
      rw [ext_step s i j hlt.1 hlt.2, e2, bt_u8 (n := 34) h1]
      rfl
  · rename_i h1
    split at h
    · rename_i h2
      cases ht : nestE s M.opened M.closed i 0 with
      | none => rw [ht] at h; cases h
      | some j =>
        rw [ht] at h
        simp only [Except.ok.injEq, Prod.mk.injEq] at h
        obtain ⟨⟨rfl, rfl⟩, rfl⟩ := h
        have hb := nestE_both (Nat.le_of_lt hi) h2 ht
        have hol : M.opened.length = 7 := rfl
        have hcl : M.closed.length = 8 := rfl
        have hd1 : stepD s M.opened M.closed i = 1 := by unfold stepD; rw [if_pos h2]
        have hw1 : stepW s M.opened M.closed i = 7 := by unfold stepW; rw [if_pos h2]; rfl
        have hc : 8 ≤ j ∧ preAt s (j - 8) M.closed = true := by
          rw [nestE_step s M.opened M.closed (by decide) (by decide) i 0 hi (by rw [hd1]; decide), hd1, hw1] at ht
          exact nest_closes s M.opened M.closed _ _ _ j (by decide) (by omega) ht
        have e1 := pre_ext h2
        have e2 := pre_ext hc.2
        rw [hcl, show j - 8 + 8 = j by omega] at e2
        rw [hol] at e1
        apply ba_ext
        rw [ext_cat s i (i + 7) j (by omega) (by omega), ext_cat s (i + 7) (j - 8) j (by omega) (by omega), e1, e2]
        rfl
    · split at h
      · cases h
      · simp only [Except.ok.injEq, Prod.mk.injEq] at h
        obtain ⟨⟨hk, rfl⟩, rfl⟩ := h
        have hb := kind_best s i 4
        have h8 : k ≠ 8 ∧ k ≠ 9 := by
          rw [← hk]
          split
          · exact ⟨by decide, by decide⟩
          · exact hb
        unfold spell
        rw [if_neg h8.2, if_neg h8.1]
theorem pre_cut (s : ByteArray) (e : Nat) (he : e ≤ s.size) : Pre (s.extract 0 e) s := by
  have h : s.data.toList = (s.extract 0 e).data.toList ++ s.data.toList.drop e := by
    rw [ext_list, List.drop_zero, Nat.sub_zero, List.take_append_drop]
  exact Pre.mk' h
theorem cut_size (s : ByteArray) (i e : Nat) (he : e ≤ s.size) : (s.extract i e).size = e - i := by
  rw [ByteArray.size_extract]; omega
theorem suf_cut (s : ByteArray) (i e : Nat) (hi : i ≤ e) (he : e ≤ s.size) : Suf i (s.extract i e) (s.extract 0 e) := by
  have hl : (s.extract 0 i).data.toList.length = i := by rw [size_len, cut_size s 0 i (by omega)]; omega
  have := Suf.mk' (b := s.extract i e) (s := s.extract 0 e) (x := (s.extract 0 i).data.toList) (ext_cat s 0 i e (Nat.zero_le _) hi)
  rwa [hl] at this
/-- a token, cut out, is one token -/
theorem scan_cut {p : List UInt8 → Bool} {s : ByteArray} {i : Nat} (hi : i < s.size) (hb : blanksE s i = .ok i) {k : Int} {t : ByteArray} {e : Nat} (h : oneE p s i = .ok ((k, t), e)) : scanE p (s.extract i e) = ([⟨k, t, 0⟩], none) := by
  have hlt := oneE_lt hi h
  simp only at hlt
  have P := pre_cut s e hlt.2
  have S := suf_cut s i e (by omega) hlt.2
  have za : (s.extract 0 e).size = e := by rw [cut_size s 0 e hlt.2]; omega
  have zu : (s.extract i e).size = e - i := cut_size s i e hlt.2
  have h1 := oneT P (by rw [za]; exact hlt.1) h (by rw [za]; exact Nat.le_refl _)
  have h2 := oneS S p (i := 0) (by rw [zu]; omega)
  rw [Nat.add_zero, h1] at h2
  have b1 := blanksT P (by rw [za]; omega) hb
  have b2 := blanksS S 0
  rw [Nat.add_zero, b1] at b2
  generalize s.extract i e = u at *
  have h3 : oneE p u 0 = .ok ((k, t), u.size) := by
    cases ho : oneE p u 0 with
    | error c => rw [ho] at h2; cases h2
    | ok r =>
      obtain ⟨r1, r2⟩ := r
      rw [ho] at h2
      simp only [shO, Except.ok.injEq, Prod.mk.injEq] at h2
      obtain ⟨rfl, h4⟩ := h2
      rw [zu, show e - i = r2 by omega]
  have b3 : blanksE u 0 = .ok 0 := by
    cases ho : blanksE u 0 with
    | error c => rw [ho] at b2; cases b2
    | ok r =>
      rw [ho] at b2
      simp only [shE, Except.ok.injEq] at b2
      rw [show r = 0 by omega]
  have b4 : blanksE u u.size = .ok u.size := by
    have hp : preAt u u.size [40, 42] = false := by
      rw [Bool.eq_false_iff]
      intro hp
      have := preAt_le hp (Nat.le_refl _)
      simp only [List.length_cons, List.length_nil] at this
      omega
    rw [blanksE_none u u.size (by rw [whileE_end _ _ _ (Nat.le_refl _)]; exact hp), whileE_end _ _ _ (Nat.le_refl _)]
  unfold scanE
  rw [b3]
  simp only
  rw [scanFrom_eq p u 0 [] (by omega), h3]
  simp only
  rw [b4]
  simp only
  rw [scanFrom_end _ _ _ _ (Nat.le_refl _)]
  rfl
/-- tokens as they stand in a text, from a place on -/
def Chain (p : List UInt8 → Bool) (s : ByteArray) : Nat → List Tok → Prop
  | _, [] => True
  | i, x :: r => i ≤ x.at_ ∧ x.at_ < s.size ∧ blanksE s x.at_ = .ok x.at_ ∧ ∃ e, oneE p s x.at_ = .ok ((x.kind, x.text), e) ∧ e ≤ s.size ∧ Chain p s e r
theorem goon_chain (p : List UInt8 → Bool) (s : ByteArray) : ∀ d i pre l, s.size - i ≤ d → i ≤ s.size → goon p s i pre = (l, none) → ∃ more, l = pre ++ more ∧ Chain p s i more := by
  intro d
  induction d using Nat.strongRecOn with
  | _ d ih =>
    intro i pre l hd hi h
    cases hb : blanksE s i with
    | error q => unfold goon at h; rw [hb] at h; cases h
    | ok j =>
      have hj := blanksE_le hi hb
      unfold goon at h
      rw [hb] at h
      simp only at h
      by_cases hlt : j < s.size
      · rw [scanFrom_goon p s j pre hlt] at h
        cases ho : oneE p s j with
        | error c => rw [ho] at h; cases h
        | ok r =>
          obtain ⟨⟨k, t⟩, e⟩ := r
          have h1 := oneE_lt hlt ho
          simp only at h1
          rw [ho] at h
          simp only at h
          obtain ⟨more, e1, e2⟩ := ih (s.size - e) (by omega) e _ l (Nat.le_refl _) h1.2 h
          refine ⟨⟨k, t, j⟩ :: more, by rw [e1]; simp, hj.1, hlt, blanks_again _ i j (Nat.le_refl _) hi hb, e, ho, h1.2, e2⟩
      · rw [scanFrom_end p s j pre (by omega)] at h
        cases h
        exact ⟨[], by simp, trivial⟩
theorem scan_chain {p : List UInt8 → Bool} {s : ByteArray} {l : List Tok} (h : scanE p s = (l, none)) : Chain p s 0 l := by
  rw [scan_goon] at h
  obtain ⟨more, e1, e2⟩ := goon_chain p s _ 0 [] l (Nat.le_refl _) (Nat.zero_le _) h
  rw [List.nil_append] at e1
  subst e1
  exact e2
/-- what writing such a token returns -/
theorem write_one {p : List UInt8 → Bool} {s : ByteArray} (hs : s.size ≤ 40000) {i : Nat} (hi : i < s.size) (hb : blanksE s i = .ok i) {k : Int} {t : ByteArray} {e : Nat} (h : oneE p s i = .ok ((k, t), e)) : writeE p k t = (s.extract i e, 0) := by
  have hlt := oneE_lt hi h
  simp only at hlt
  unfold writeE
  rw [one_spell hi h, scan_cut hi hb h, if_neg (by rw [cut_size s i e hlt.2]; omega)]
  simp only
  rw [if_pos]
  unfold tokB
  simp
end Go.Proofs.YtmkfeanggmjhmaaGreat.Pl
namespace Go.Proofs.YtmkfeanggmjhmaaGreat.Pl
open Go Go.RowKit Go.Shelf Go.Proofs.YtmkfeanggmjhmaaGreatW.PrintWords Go.Proofs.YtmkfeanggmjhmaaGreatW.PrintLast Go.Proofs.YtmkfeanggmjhmaaGreatW.PrintMore
open Go.Proofs.YtmkfeanggmjhmaaGreat.M Go.Proofs.YtmkfeanggmjhmaaGreat.K Go.Proofs.YtmkfeanggmjhmaaGreat.S Go.Proofs.YtmkfeanggmjhmaaGreat.Q Go.Proofs.YtmkfeanggmjhmaaGreat.Rp Go.Proofs.YtmkfeanggmjhmaaGreat.Wr Go.Proofs.YtmkfeanggmjhmaaGreat.Rw
set_option linter.unusedSimpArgs false
set_option linter.unusedVariables false

theorem few_sizes {most : Int} {l : List ByteArray} {s : ByteArray} (h : fewB most l s = true) : l.length ≤ 20 ∧ (s.size : Int) ≤ most ∧ ∀ x ∈ l, x.size ≤ 60 := by
  unfold fewB at h
  simp only [Bool.and_eq_true, decide_eq_true_eq, Bool.not_eq_true', List.any_eq_false, Bool.not_eq_true] at h
  refine ⟨h.1.1, h.1.2, fun x hx => ?_⟩
  have := h.2 x hx
  simp at this
  exact this
theorem all_cases {l : List ByteArray} {s : ByteArray} {xs : List Tok} {q : Nat} {e : Int} (hs : s.size ≤ 40000) (h : scanAll l s = (xs, q, e)) :
    q ≤ s.size ∧ (e = 0 → checkE l = 0 ∧ scanE (kwp l) s = (xs, none)) ∧ (e ≠ 0 → xs = []) := by
  unfold scanAll at h
  split at h
  · rename_i h1
    cases h
    exact ⟨Nat.zero_le _, fun h => absurd h h1, fun _ => rfl⟩
  · rename_i h1
    rw [if_neg (by omega)] at h
    obtain ⟨b1, b2, b3⟩ := scan_bounds (kwp l) s
    have h1' : checkE l = 0 := by simpa using h1
    cases hsc : scanE (kwp l) s with
    | mk ys o =>
      rw [hsc] at h b1 b2 b3
      cases o with
      | none => cases h; exact ⟨Nat.zero_le _, fun _ => ⟨h1', rfl⟩, fun h => absurd rfl h⟩
      | some r =>
        obtain ⟨p, c⟩ := r
        cases h
        obtain ⟨h2, h3⟩ := b3 _ _ rfl
        exact ⟨h2, fun h => (by rcases h3 with h' | h' | h' <;> rw [h'] at h <;> cases h), fun _ => rfl⟩
theorem spell_ge (k : Int) (t : ByteArray) : t.size ≤ (spell k t).size := by
  have e : t.data.toList.length = t.size := rfl
  unfold spell
  split
  · show t.size ≤ (Rp.opened ++ t.data.toList ++ Rp.closed).toArray.size
    rw [List.size_toArray, List.length_append, List.length_append]
    omega
  · split
    · show t.size ≤ (34 :: escL t.data.toList ++ [34]).toArray.size
      rw [List.size_toArray, List.length_append, List.length_cons, escL_len]
      omega
    · exact Nat.le_refl _
/-- tokens from place e on, whose first ones are gone: what the next round meets -/
theorem chain_at {p : List UInt8 → Bool} {s : ByteArray} (hs : s.size ≤ 40000) {i : Nat} {x : Tok} {r : List Tok} (h : Chain p s i (x :: r)) :
    i ≤ x.at_ ∧ x.at_ < s.size ∧ ∃ e, x.at_ < e ∧ e ≤ s.size ∧ writeE p x.kind x.text = (s.extract x.at_ e, 0) ∧ x.text.size ≤ s.size ∧ Chain p s e r := by
  obtain ⟨h1, h2, h3, e, h4, h5, h6⟩ := h
  have hlt := oneE_lt h2 h4
  refine ⟨h1, h2, e, hlt.1, h5, write_one hs h2 h3 h4, ?_, h6⟩
  have hsp := one_spell h2 h4
  have h7 := spell_ge x.kind x.text
  rw [hsp, cut_size s _ _ h5] at h7
  omega
theorem has_cut (s : ByteArray) (i e : Nat) (h1 : i ≤ e) (h2 : e ≤ s.size) : Lib.hasPrefix (s.extract i s.size).data.toList (s.extract i e).data.toList = true := by
  unfold Lib.hasPrefix
  rw [List.isPrefixOf_iff_prefix, ext_cat s i e s.size h1 h2]
  exact List.prefix_append _ _

set_option maxRecDepth 100000 in
set_option maxHeartbeats 4000000 in
theorem TokenPlaces_calls (A : Option Addr) (c : Nat) (l : List ByteArray) (hc : l.length ≤ c) (s : ByteArray) (w : World) (hr : Kd.C Kd.string w A l.length l) :
    Calls Tryz.prog 3 #[.slice A l.length c, .string s] w fun r w' => r = .returned (.bool true) ∧ Below w.heap.size w w' := by
  have HF := Lib.hid (fun w hr => Few_calls 800 A c l hc s w hr)
  have HA := Lib.hid awake_calls
  have Hr := Lib.hid hr
  clear hr
  cases hf : fewB 800 l s with
  | false =>
    rw [hf] at HF
    clear hf
    go_enter Tryz.func3, Tryz.ntmps3
    go_wp2_with fail
    refine (HF.out _ Hr.out).mono ?_
    rintro e w' ⟨rfl, rfl⟩
    go_wp2_with fail
    refine (HA.out _).mono ?_
    rintro e w2 ⟨rfl, hb⟩
    go_wp2
    go_ret
    exact ⟨rfl, hb⟩
  | true =>
    rw [hf] at HF
    obtain ⟨hl20, hs8, hx⟩ := few_sizes hf
    clear hf
    have hx' : ∀ x ∈ l, x.size ≤ 1000000000000 := fun x h => Nat.le_trans (hx x h) (by decide)
    have HS := Lib.hid (fun w hr => Scan_calls A c l hx' hc s w hr)
    unfold ScanAllEnd at HS
    cases h1 : scanAll l s with
    | mk xs r1 =>
    obtain ⟨q, e1⟩ := r1
    rw [h1] at HS
    simp only at HS
    obtain ⟨hq, h0, hne⟩ := all_cases (by omega) h1
    by_cases he : e1 = 0
    · subst he
      obtain ⟨hck, hsc⟩ := h0 rfl
      have hch := Pl.scan_chain hsc
      have hxl : xs.length ≤ s.size := by have := (scan_bounds (kwp l) s).1; rw [hsc] at this; exact this
      have HWR := Lib.hid (fun k t q ht (w : World) hr => Write_calls A c l hx' hc k t q ht w hr)
      have hwa : ∀ k t, writeAll l k t = writeE (kwp l) k t := fun k t => by unfold writeAll; rw [if_neg (by simpa using hck)]
      have Hwa := Lib.hid hwa
      have Hch := Lib.hid hch
      clear h1 h0 hne hx hx' hl20 hck hsc hwa hch
      go_enter Tryz.func3, Tryz.ntmps3
      go_wp2_with fail
      refine (HF.out _ Hr.out).mono ?_
      rintro e w' ⟨rfl, rfl⟩
      go_wp2_with fail
      refine (HS.out _ Hr.out).mono ?_
      rintro e3 w1 ⟨v, rfl, ho, hb1⟩
      have Hr1 := Lib.hid (Kd.C_below Hr.out hb1)
      rcases row_cases ho with ⟨rfl, rfl⟩ | ⟨g, cap, tail, rfl, hg, hh, hcp, hcm, ht⟩
      · clear ho
        go_wp2
        go_loopg [40] 0 (fun gg v wr => v = .int .i64 0 ∧ wr = w1)
        case atStart => exact ⟨rfl, rfl⟩
        case round =>
          obtain ⟨rfl, rfl⟩ := hrel
          go_wp2_with fail
          refine (HA.out _).mono ?_
          rintro e w2 ⟨rfl, hb⟩
          go_wp2
          go_ret
          exact ⟨rfl, hb1.trans (hb.mono (by have := hb1.size; omega))⟩
      · clear ho
        have Hh := Lib.hid hh
        have Hb1 := Lib.hid hb1
        clear hh hb1
        go_wp2
        go_loopg [8, 40] xs.length (fun gg v8 v40 wr => ∃ i en : Nat, v8 = .int .i64 en ∧ v40 = .int .i64 i ∧ i ≤ xs.length ∧ xs.length - i ≤ gg ∧ en ≤ s.size ∧ Hid (Chain (kwp l) s en (xs.drop i)) ∧ Hid (Below w1.heap.size w1 wr))
        case atStart => exact ⟨0, 0, rfl, by go_num, Nat.zero_le _, Nat.le_refl _, Nat.zero_le _, Hch, Lib.hid (Below.refl _ _)⟩
        case round =>
          obtain ⟨i, en, rfl, rfl, hi, hgg, hen, HC, HB⟩ := hrel
          have Hr2 := Lib.hid (Kd.C_below Hr1.out HB.out)
          by_cases hlt : i < xs.length
          · have hltz : (i : Int) < (xs.length : Int) := by omega
            have hcx := HC.out
            rw [List.drop_eq_getElem_cons hlt] at hcx
            have hfl : ∀ j, j < 3 → wr.cell? ⟨g, i * 3 + j, none⟩ = (tokCells (xs[i]'hlt))[j]? := fun j hj => by
              rw [Lib.cell_of_heap ((HB.out.block g (lt_heap Hh.out)).trans Hh.out), List.getElem?_toArray, List.getElem?_append_left (by rw [flat_len]; omega)]
              exact flat_at xs i _ (List.getElem?_eq_getElem hlt) j hj
            have y0 : wr.cell? ⟨g, i * 3, none⟩ = some (.int .i64 (xs[i]'hlt).kind) := hfl 0 (by decide)
            have y1 : wr.cell? ⟨g, i * 3 + 1, none⟩ = some (.string (xs[i]'hlt).text) := hfl 1 (by decide)
            have y2 : wr.cell? ⟨g, i * 3 + 2, none⟩ = some (.int .i64 (xs[i]'hlt).at_) := hfl 2 (by decide)
            clear hfl
            generalize xs[i]'hlt = x at hcx y0 y1 y2
            obtain ⟨k1, k2, e, k3, k4, k5, k6, k7⟩ := chain_at (by omega) hcx
            have hwx := Hwa.out x.kind x.text
            rw [k5] at hwx
            have HX := Lib.hid (fun (w : World) hr => HWR.out x.kind x.text x.at_ (by omega) w hr)
            rw [hwx] at HX
            have hes : (s.extract x.at_ e).size = e - x.at_ := cut_size s _ _ k4
            have hpf := Tryz.strings_HasPrefix (s.extract x.at_ s.size) (s.extract x.at_ e)
            rw [has_cut s x.at_ e (by omega) k4] at hpf
            have HPF := Lib.hid hpf
            have K7 := Lib.hid k7
            clear hcx k5 hwx hpf k7
            generalize s.extract x.at_ e = S at HX hes HPF
            have hzal : (wr.alloc (.cells #[.int .i64 x.kind, .string x.text, .int .i64 x.at_] 30)).heap.size = wr.heap.size + 1 := by simp
            have hal : Below wr.heap.size wr (wr.alloc (.cells #[.int .i64 x.kind, .string x.text, .int .i64 x.at_] 30)) := (Below.refl _ wr).alloc (Nat.le_refl _) _
            have Hr3 := Lib.hid (Kd.C_below Hr2.out hal)
            have u1 : ¬ (x.at_ : Int) < (en : Int) := by omega
            have u2 : ¬ (s.size : Int) < (x.at_ : Int) + (S.size : Int) := by omega
            have u3 : (x.at_ : Int) ≤ (s.size : Int) := by omega
            go_wp2_with fail
            refine (HX.out _ Hr3.out).mono ?_
            rintro e5 w5 ⟨rfl, hb5⟩
            have e0 : w5.heap[wr.heap.size]? = some (.cells #[.int .i64 x.kind, .string x.text, .int .i64 x.at_] 30 (0, 0)) := (hb5.block _ (by rw [hzal]; omega)).trans (World.alloc_heap_new wr _)
            have f2 : w5.cell? ⟨wr.heap.size, 2, none⟩ = some (.int .i64 x.at_) := by rw [Lib.cell_of_heap e0]; rfl
            have hb6 : Below wr.heap.size wr w5 := hal.trans (hb5.mono (by rw [hzal]; omega))
            have HB6 := Lib.hid hb6
            clear hal hb5 e0 hb6 hzal y0 y1 y2
            go_wp2_with (go_at_call 10; refine (HPF.out _).mono ?_; rintro e7 w7 ⟨rfl, rfl⟩)
            go_roundg (xs.length - (i + 1))
            case measure => omega
            case rel =>
              have hee : (x.at_ : Int) + ((e - x.at_ : Nat) : Int) = ((e : Nat) : Int) := by omega
              refine ⟨i + 1, e, by rw [hee], ?_, by omega, Nat.le_refl _, k4, K7, Lib.hid (HB.out.trans (HB6.out.mono HB.out.size))⟩
              go_num
          · have hltz : ¬ (i : Int) < (xs.length : Int) := by omega
            go_wp2_with fail
            refine (HA.out _).mono ?_
            rintro e w2 ⟨rfl, hb⟩
            go_wp2
            go_ret
            have z1 := Hb1.out.size
            have z2 := HB.out.size
            exact ⟨rfl, (Hb1.out.trans (HB.out.mono (by omega))).trans (hb.mono (by omega))⟩
    · have g1 : (e1 != 0) = true := by simpa using he
      obtain rfl := hne he
      have hqz : (q : Int) ≤ (s.size : Int) := by omega
      have hqp : (0 : Int) ≤ (q : Int) := by omega
      clear h1 h0 hne hx hx' hl20 he
      go_enter Tryz.func3, Tryz.ntmps3
      go_wp2_with fail
      refine (HF.out _ Hr.out).mono ?_
      rintro e w' ⟨rfl, rfl⟩
      go_wp2_with fail
      refine (HS.out _ Hr.out).mono ?_
      rintro e3 w1 ⟨v, rfl, ho, hb1⟩
      go_wp2_with fail
      refine (HA.out _).mono ?_
      rintro e w2 ⟨rfl, hb⟩
      go_wp2
      go_ret
      exact ⟨rfl, hb1.trans (hb.mono (by have := hb1.size; omega))⟩
end Go.Proofs.YtmkfeanggmjhmaaGreat.Pl
