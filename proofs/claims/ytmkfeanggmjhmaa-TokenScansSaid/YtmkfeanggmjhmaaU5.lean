/- The printed reference of tokens is the plain scanner: the token without keywords at a place is the longest one. -/
import Derived.Test.YtmkfeanggmjhmaaU3
namespace Go.Proofs.Ytmkfeanggmjhmaa.L
set_option linter.unusedSimpArgs false
set_option linter.unusedVariables false
open Go Go.RowKit Go.Proofs.YtmkfeanggmjhmaaW.PrintWords Go.Proofs.YtmkfeanggmjhmaaW.PrintLast Go.Proofs.YtmkfeanggmjhmaaW.PrintMore
open Go.Proofs.Ytmkfeanggmjhmaa.M Go.Proofs.Ytmkfeanggmjhmaa.E Go.Proofs.Ytmkfeanggmjhmaa.PTokenScans

theorem sign_iff (c : Int) (h0 : 0 ≤ c) (h1 : c ≤ 255) : signB c = true ↔ (33 = c ∨ 35 = c ∨ 36 = c ∨ 37 = c ∨ 38 = c ∨ 42 = c ∨ 43 = c ∨ 45 = c ∨ 47 = c ∨ 58 = c ∨ 60 = c ∨ 61 = c ∨ 62 = c ∨ 64 = c ∨ 94 = c ∨ 124 = c ∨ 126 = c) := by
  rw [sign_has c h0 h1]
  unfold hasB signT
  simp only [List.any_cons, List.any_nil, Bool.or_false, Bool.or_eq_true, decide_eq_true_eq]
  exact Iff.rfl
theorem point_iff (c : Int) (h0 : 0 ≤ c) (h1 : c ≤ 255) : pointB c = true ↔ (40 = c ∨ 41 = c ∨ 91 = c ∨ 93 = c ∨ 123 = c ∨ 125 = c ∨ 44 = c ∨ 59 = c ∨ 46 = c) := by
  rw [point_has c h0 h1]
  unfold hasB pointT
  simp only [List.any_cons, List.any_nil, Bool.or_false, Bool.or_eq_true, decide_eq_true_eq]
  exact Iff.rfl
theorem letter_iff (c : Int) : letterB c = true ↔ (97 ≤ c ∧ c ≤ 122 ∨ 65 ≤ c ∧ c ≤ 90 ∨ c = 95) := by unfold letterB; exact decide_eq_true_iff
theorem digit_iff (c : Int) : digitB c = true ↔ (48 ≤ c ∧ c ≤ 57) := by unfold digitB; exact decide_eq_true_iff
theorem sign_no {c : Int} (h0 : 0 ≤ c) (h1 : c ≤ 255) (h : ¬ (33 = c ∨ 35 = c ∨ 36 = c ∨ 37 = c ∨ 38 = c ∨ 42 = c ∨ 43 = c ∨ 45 = c ∨ 47 = c ∨ 58 = c ∨ 60 = c ∨ 61 = c ∨ 62 = c ∨ 64 = c ∨ 94 = c ∨ 124 = c ∨ 126 = c)) : signB c = false :=
  Bool.eq_false_iff.2 (fun e => h ((sign_iff c h0 h1).1 e))
theorem point_no {c : Int} (h0 : 0 ≤ c) (h1 : c ≤ 255) (h : ¬ (40 = c ∨ 41 = c ∨ 91 = c ∨ 93 = c ∨ 123 = c ∨ 125 = c ∨ 44 = c ∨ 59 = c ∨ 46 = c)) : pointB c = false :=
  Bool.eq_false_iff.2 (fun e => h ((point_iff c h0 h1).1 e))
theorem letter_no {c : Int} (h : ¬ (97 ≤ c ∧ c ≤ 122 ∨ 65 ≤ c ∧ c ≤ 90 ∨ c = 95)) : letterB c = false := Bool.eq_false_iff.2 (fun e => h ((letter_iff c).1 e))
theorem digit_no {c : Int} (h : ¬ (48 ≤ c ∧ c ≤ 57)) : digitB c = false := Bool.eq_false_iff.2 (fun e => h ((digit_iff c).1 e))

/-- a reading that is as good as the best one -/
def Good (s : ByteArray) (i : Nat) (r : Int × Nat) : Prop := r.2 = (bestE s i 4).2 ∧ (r.2 ≠ i → r.1 = (bestE s i 4).1)

def tailV (s : ByteArray) (i : Nat) : Int × Nat := if digitB (bt s i) then (6, whileE digitB s i) else if signB (bt s i) then (7, runE s i) else if pointB (bt s i) then (7, i + 1) else (7, namedE s i)
def castP (r : Int × Nat) : Int × Int := (r.1, (r.2 : Int))

theorem tail_good (s : ByteArray) (i : Nat) (hi : i < s.size) (hl : letterB (bt s i) = false) (hv : varsE s i = (0, i)) (h39 : digitB (bt s i) = true ∨ signB (bt s i) = true ∨ pointB (bt s i) = true ∨ True) : Good s i (tailV s i) := by
  have hr := bt_range s i
  unfold Good tailV
  rw [best_eq, names_none hl, hv]
  simp only [Nat.lt_irrefl, if_false]
  by_cases h1 : digitB (bt s i) = true
  · have hd := (digit_iff _).1 h1
    have hg : i < whileE digitB s i := by rw [whileE_hit _ _ _ hi h1]; exact whileE_ge _ _ _
    have hy : symE s i = i := sym_none hi (by omega) (sign_no hr.1 hr.2 (by omega)) (point_no hr.1 hr.2 (by omega))
    rw [if_pos h1, if_pos hg, hy, if_neg (by simp only; omega)]
    exact ⟨rfl, fun _ => rfl⟩
  · have hd := digits_none hi (Bool.eq_false_iff.2 h1)
    rw [if_neg h1, hd]
    simp only [Nat.lt_irrefl, if_false]
    by_cases h2 : signB (bt s i) = true
    · have hsg := (sign_iff _ hr.1 hr.2).1 h2
      have hn := named_none hi (show bt s i ≠ 92 by omega)
      have hg : i < runE s i := by unfold runE; rw [whileE_hit _ _ _ hi h2]; exact whileE_ge _ _ _
      have hy : symE s i = runE s i := by
        unfold symE
        rw [hn, if_neg (by omega)]
        omega
      rw [if_pos h2, hy, if_pos hg]
      exact ⟨rfl, fun _ => rfl⟩
    · rw [if_neg h2]
      have hrn := run_none hi (Bool.eq_false_iff.2 h2)
      by_cases h3 : pointB (bt s i) = true
      · have hpt := (point_iff _ hr.1 hr.2).1 h3
        have hn := named_none hi (show bt s i ≠ 92 by omega)
        have hy : symE s i = i + 1 := by
          unfold symE
          rw [hn, hrn, Nat.max_self, if_pos rfl, if_pos h3]
        rw [if_pos h3, hy, if_pos (by omega)]
        exact ⟨rfl, fun _ => rfl⟩
      · rw [if_neg h3]
        have hge := namedE_ge s i
        have hy : symE s i = namedE s i := by
          unfold symE
          rw [hrn]
          by_cases he : namedE s i = i
          · rw [he, Nat.max_self, if_pos rfl, if_neg h3]
          · rw [if_neg (by omega)]; omega
        rw [hy]
        by_cases he : i < namedE s i
        · rw [if_pos he]
          exact ⟨rfl, fun _ => rfl⟩
        · rw [if_neg he]
          exact ⟨by simp only; omega, fun h => absurd (by simp only; omega) h⟩

theorem bt_letter_39 {c : Int} (h : letterB c = true) : c ≠ 39 := by have := (letter_iff c).1 h; omega
theorem ident_pos {s : ByteArray} {i : Nat} (h : i < identE s i) : i < s.size ∧ letterB (bt s i) = true := by
  unfold identE at h
  split at h
  · rename_i hi
    split at h
    · rename_i hl; exact ⟨hi, hl⟩
    · omega
  · omega

theorem mark_some {s : ByteArray} {i : Nat} {m : List UInt8} (hp : preAt s i m = true) (h : i + m.length < identE s (i + m.length)) : markE s i m = some (identE s (i + m.length)) := by
  unfold markE; rw [if_pos hp, if_pos h]
theorem mark_not {s : ByteArray} {i : Nat} {m : List UInt8} (h : identE s (i + m.length) = i + m.length) : markE s i m = none := by
  unfold markE; split
  · rw [if_neg (by omega)]
  · rfl
theorem mark_pre {s : ByteArray} {i : Nat} {m : List UInt8} (h : preAt s i m = false) : markE s i m = none := by
  unfold markE; rw [if_neg (by rw [h]; decide)]

/-- where a variable stands, it is best -/
theorem vars_good (s : ByteArray) (i : Nat) (hi : i < s.size) (h39 : bt s i = 39 ∨ bt s i = 63) (k : Int) (e : Nat) (hv : varsE s i = (k, e)) (he : i < e) : Good s i (k, e) := by
  have hr := bt_range s i
  have hy : symE s i = i := sym_none hi (by omega) (sign_no hr.1 hr.2 (by omega)) (point_no hr.1 hr.2 (by omega))
  unfold Good
  rw [best_eq, names_none (letter_no (by omega)), hv]
  simp only [Nat.lt_irrefl, if_false, if_pos he]
  rw [digits_none hi (digit_no (by omega)), hy]
  simp only [if_neg (show ¬ e < i by omega), true_and, implies_true]

end Go.Proofs.Ytmkfeanggmjhmaa.L
namespace Go.Proofs.Ytmkfeanggmjhmaa.L
set_option linter.unusedSimpArgs false
set_option linter.unusedVariables false
open Go Go.RowKit Go.Proofs.YtmkfeanggmjhmaaW.PrintWords Go.Proofs.YtmkfeanggmjhmaaW.PrintLast Go.Proofs.YtmkfeanggmjhmaaW.PrintMore
open Go.Proofs.Ytmkfeanggmjhmaa.M Go.Proofs.Ytmkfeanggmjhmaa.E Go.Proofs.Ytmkfeanggmjhmaa.PTokenScans

theorem pre_drop {s : ByteArray} {i : Nat} {x : ByteArray} (hp : preAt s i x.data.toList = true) : ∃ r, s.data.toList.drop i = x.data.toList ++ r := by
  unfold preAt at hp
  obtain ⟨r, hr⟩ := List.isPrefixOf_iff_prefix.1 hp
  exact ⟨r, hr.symm⟩
theorem bt_list (s : ByteArray) (i : Nat) : bt s i = (match s.data.toList[i]? with | some b => (b.toNat : Int) | none => 0) := by
  by_cases h : i < s.size
  · have hl : i < s.data.toList.length := h
    rw [bt_nat s i h, List.getElem?_eq_getElem hl]
    rfl
  · have hl : s.data.toList.length ≤ i := Nat.le_of_not_lt h
    rw [List.getElem?_eq_none hl]
    unfold bt
    rw [Int.toNat_natCast, dif_neg h]
theorem bt_pre {s : ByteArray} {i : Nat} {x : ByteArray} (hp : preAt s i x.data.toList = true) (j : Nat) (hj : j < x.size) : bt s ((i + j : Nat) : Int) = bt x j := by
  obtain ⟨r, hr⟩ := pre_drop hp
  have hl : j < x.data.toList.length := hj
  rw [bt_list, bt_list, ← List.getElem?_drop, hr, List.getElem?_append_left hl]
theorem pre_size {s : ByteArray} {i : Nat} {x : ByteArray} (hp : preAt s i x.data.toList = true) (hi : i ≤ s.size) : i + x.size ≤ s.size := preAt_le hp hi

theorem while_shift (p : Int → Bool) {s : ByteArray} {i : Nat} {x : ByteArray} (hp : preAt s i x.data.toList = true) (hi : i ≤ s.size) : ∀ d j : Nat, x.size - j ≤ d → whileE p x j < x.size → whileE p s (i + j) = i + whileE p x j := by
  have hsz := pre_size hp hi
  intro d
  induction d with
  | zero =>
    intro j hd hlt
    have := whileE_ge p x j
    omega
  | succ d ih =>
    intro j hd hlt
    have hge := whileE_ge p x j
    have hjx : j < x.size := by omega
    have hb := bt_pre hp j hjx
    cases hc : p (bt x j) with
    | true =>
      rw [whileE_hit p x j hjx hc] at hlt ⊢
      rw [whileE_hit p s (i + j) (by omega) (by rw [hb]; exact hc)]
      exact ih (j + 1) (by omega) hlt
    | false =>
      rw [whileE_miss p x j hjx hc, whileE_miss p s (i + j) (by omega) (by rw [hb]; exact hc)]
theorem while_all (p : Int → Bool) {s : ByteArray} {i : Nat} {x : ByteArray} (hp : preAt s i x.data.toList = true) (hi : i ≤ s.size) : ∀ d j : Nat, x.size - j ≤ d → whileE p x j = x.size → i + x.size ≤ whileE p s (i + j) := by
  have hsz := pre_size hp hi
  intro d
  induction d with
  | zero =>
    intro j hd he
    have := whileE_ge p s (i + j)
    omega
  | succ d ih =>
    intro j hd he
    by_cases hj : j < x.size
    · have hb := bt_pre hp j hj
      cases hc : p (bt x j) with
      | true =>
        rw [whileE_hit p x j hj hc] at he
        rw [whileE_hit p s (i + j) (by omega) (by rw [hb]; exact hc)]
        exact ih (j + 1) (by omega) he
      | false =>
        rw [whileE_miss p x j hj hc] at he
        omega
    · have := whileE_ge p s (i + j)
      omega
theorem pre_trans {s : ByteArray} {i : Nat} {x : ByteArray} (hp : preAt s i x.data.toList = true) {m : List UInt8} (hm : preAt x 0 m = true) : preAt s i m = true := by
  unfold preAt at hp hm ⊢
  rw [List.drop_zero] at hm
  exact List.isPrefixOf_iff_prefix.2 ((List.isPrefixOf_iff_prefix.1 hm).trans (List.isPrefixOf_iff_prefix.1 hp))

theorem named_shift {s : ByteArray} {i : Nat} {x : ByteArray} (hp : preAt s i x.data.toList = true) (hi : i ≤ s.size) (h0 : 0 < x.size) (hn : namedE x 0 = x.size) : namedE s i = i + x.size ∧ bt s i = 92 := by
  have hsz := pre_size hp hi
  unfold namedE at hn
  split at hn
  · rename_i hm
    have hm2 := preAt_le hm (by omega)
    simp only [List.length_cons, List.length_nil] at hm2
    have h92 : bt s i = 92 := by
      have := preAt_first (c := 92) (t := [60]) (by omega) hm
      have hb := bt_pre hp 0 h0
      rw [Nat.add_zero] at hb
      rw [hb]; exact this
    refine ⟨?_, h92⟩
    split at hn
    · omega
    · rename_i hno
      have n1 : identE x (0 + 2) ≠ 0 + 2 := fun e => hno (.inl e)
      have n2 : identE x (0 + 2) ≠ x.size := fun e => hno (.inr (.inl e))
      have n3 : bt x (identE x (0 + 2)) = 62 := Decidable.byContradiction (fun e => hno (.inr (.inr e)))
      have hle := identE_le x (0 + 2) (by omega)
      have hge := identE_ge x (0 + 2)
      have hlt2 : 0 + 2 < identE x (0 + 2) := by omega
      obtain ⟨a1, a2⟩ := ident_pos hlt2
      have hid : identE x (0 + 2) = whileE identB x (0 + 2) := by unfold identE; rw [if_pos a1, if_pos a2]
      have hbs := bt_pre hp (0 + 2) a1
      have e0 : i + (0 + 2) = i + 2 := by omega
      rw [e0] at hbs
      have hids : identE s (i + 2) = whileE identB s (i + 2) := by unfold identE; rw [if_pos (by omega), if_pos (by rw [hbs]; exact a2)]
      have hsh := while_shift identB hp hi _ (0 + 2) (Nat.le_refl _) (by rw [← hid]; omega)
      rw [e0, ← hids, ← hid] at hsh
      have hb2 := bt_pre hp (identE x (0 + 2)) (by omega)
      unfold namedE
      rw [if_pos (pre_trans hp hm), hsh, if_neg]
      · omega
      · rintro (h | h | h)
        · omega
        · omega
        · rw [hb2] at h
          exact h n3
  · omega

/-- a keyword at a place, no shorter than the best reading, that begins with no letter, is the best reading, and that is a symbol -/
theorem kw_sym {s : ByteArray} {i : Nat} (hi : i < s.size) {x : ByteArray} (hk : kwB x = true) (hp : preAt s i x.data.toList = true) (hl : letterB (bt x ((0 : Nat) : Int)) = false) {r : Int × Nat} (hg : Good s i r) (hle : r.2 ≤ i + x.size) : r = (7, i + x.size) := by
  have hsz := pre_size hp (by omega)
  unfold kwB at hk
  simp only [Bool.and_eq_true, Bool.not_eq_true', Bool.or_eq_false_iff, decide_eq_false_iff_not, Bool.or_eq_true, decide_eq_true_eq] at hk
  obtain ⟨⟨⟨⟨h0, h40⟩, hop⟩, hcl⟩, hk⟩ := hk
  have h0' : 0 < x.size := by omega
  have hb := bt_pre hp 0 h0'
  rw [Nat.add_zero] at hb
  have hls : letterB (bt s i) = false := by rw [hb]; exact hl
  have hr := bt_range s i
  have key : bestE s i 4 = (7, i + x.size) ∨ (bestE s i 4).1 = 7 ∧ i + x.size ≤ (bestE s i 4).2 := by
    rcases hk with ((hk | hk) | hk) | ⟨hk, hk2⟩
    · have hi0 : identE x 0 = 0 := ident_none hl
      omega
    · -- a run of signs
      have hsg : signB (bt s i) = true := by
        rw [hb]
        cases hc : signB (bt x 0) with
        | true => rfl
        | false =>
          have := run_none h0' hc
          unfold runE at hk this
          rw [this] at hk
          omega
      have hal := while_all signB hp (by omega) _ 0 (Nat.le_refl _) hk
      rw [Nat.add_zero] at hal
      have hsi := (sign_iff _ hr.1 hr.2).1 hsg
      have hy : symE s i = runE s i := by
        unfold symE
        rw [named_none hi (by omega), if_neg (by unfold runE; omega)]
        unfold runE
        omega
      right
      rw [best_eq, names_none hls, vars_none hi (by omega) (by omega), digits_none hi (digit_no (by omega)), hy]
      simp only [Nat.lt_irrefl, if_false]
      rw [if_pos (by unfold runE; omega)]
      exact ⟨rfl, hal⟩
    · -- a named symbol
      obtain ⟨hn, h92⟩ := named_shift hp (by omega) h0' hk
      have hy : symE s i = i + x.size := by
        unfold symE
        rw [hn, run_none hi (sign_no hr.1 hr.2 (by omega)), if_neg (by omega)]
        omega
      left
      rw [best_eq, names_none hls, vars_none hi (by omega) (by omega), digits_none hi (digit_no (by omega)), hy]
      simp only [Nat.lt_irrefl, if_false]
      rw [if_pos (by omega)]
    · -- a point
      have hpt : pointB (bt s i) = true := by rw [hb]; exact hk2
      have hpi := (point_iff _ hr.1 hr.2).1 hpt
      have hy : symE s i = i + x.size := by
        unfold symE
        rw [named_none hi (by omega), run_none hi (sign_no hr.1 hr.2 (by omega)), Nat.max_self, if_pos rfl, if_pos hpt, hk]
      left
      rw [best_eq, names_none hls, vars_none hi (by omega) (by omega), digits_none hi (digit_no (by omega)), hy]
      simp only [Nat.lt_irrefl, if_false]
      rw [if_pos (by omega)]
  obtain ⟨g1, g2⟩ := hg
  obtain ⟨rk, re⟩ := r
  simp only at g1 g2 hle
  rcases key with key | ⟨k1, k2⟩
  · rw [key] at g1 g2
    simp only at g1 g2
    subst g1
    rw [g2 (by omega)]
  · have : re = i + x.size := by omega
    subst this
    rw [g2 (by omega), k1]

/-- where a letter stands, the best reading is a name -/
theorem good_letter {s : ByteArray} {i : Nat} (hi : i < s.size) (hl : letterB (bt s i) = true) {r : Int × Nat} (hg : Good s i r) : i < r.2 ∧ (r.1 = 1 ∨ r.1 = 2) := by
  have hr := bt_range s i
  have hli := (letter_iff _).1 hl
  have a := ident_some hi hl
  have hy : symE s i = i := sym_none hi (by omega) (sign_no hr.1 hr.2 (by omega)) (point_no hr.1 hr.2 (by omega))
  have hw : namesE s i = wordE s 1 (identE s i) := by unfold namesE; rw [if_pos a]
  have hle := identE_le s i (by omega)
  have h2 : i < (namesE s i).2 := by
    rw [hw]
    have := wordF_le s (s.size - identE s i) 1 (identE s i) hle
    unfold wordE
    omega
  have hkind : ∀ d k e, (k = 1 ∨ k = 2) → (wordF s d k e).1 = 1 ∨ (wordF s d k e).1 = 2 := by
    intro d
    induction d with
    | zero => intro k e h; exact h
    | succ d ih =>
      intro k e h
      unfold wordF
      split
      · split
        · split
          · exact h
          · exact ih 2 _ (.inr rfl)
        · exact h
      · exact h
  have h1 : (namesE s i).1 = 1 ∨ (namesE s i).1 = 2 := by rw [hw]; exact hkind _ 1 _ (.inl rfl)
  have hbest : bestE s i 4 = namesE s i := by
    rw [best_eq, vars_none hi (by omega) (by omega), digits_none hi (digit_no (by omega)), hy]
    simp only [if_pos h2, if_neg (show ¬ (namesE s i).2 < i by omega)]
  obtain ⟨g1, g2⟩ := hg
  rw [hbest] at g1 g2
  have h3 : i < r.2 := by omega
  exact ⟨h3, by rw [g2 (by omega)]; exact h1⟩
end Go.Proofs.Ytmkfeanggmjhmaa.L
