/- Two texts with a blank between them have the tokens of both.  It names no program. -/
import Derived.Test.YtmkfeanggmjhmaaGreatQ1
namespace Go.Proofs.YtmkfeanggmjhmaaGreat.Q
set_option linter.unusedSimpArgs false
set_option linter.unusedVariables false
open Go Go.RowKit Go.Proofs.YtmkfeanggmjhmaaGreatW.PrintWords Go.Proofs.YtmkfeanggmjhmaaGreat.M

/-- s is a, a byte that is part of no token, and b -/
structure Sep (a b s : ByteArray) (c : UInt8) : Prop where
  eq : s.data.toList = a.data.toList ++ c :: b.data.toList
  no : c = 10 ∨ c = 32
section
variable {a b s : ByteArray} {c : UInt8}
theorem Sep.pre (H : Sep a b s c) : Pre a s := Pre.mk' H.eq
theorem Sep.size (H : Sep a b s c) : s.size = a.size + 1 + b.size := by
  have := congrArg List.length H.eq
  rw [List.length_append, List.length_cons] at this
  have e1 : s.data.toList.length = s.size := rfl
  have e2 : a.data.toList.length = a.size := rfl
  have e3 : b.data.toList.length = b.size := rfl
  omega
theorem Sep.bt_n (H : Sep a b s c) : bt s (a.size : Int) = 10 ∨ bt s (a.size : Int) = 32 := by
  rw [bt_opt, H.eq, ← size_len, List.getElem?_append_right (Nat.le_refl _), Nat.sub_self]
  rcases H.no with rfl | rfl
  · exact .inl rfl
  · exact .inr rfl
theorem Sep.cross (H : Sep a b s c) {i : Nat} {t : List UInt8} (hi : i ≤ a.size) (h10 : (10 : UInt8) ∉ t) (h32 : (32 : UInt8) ∉ t) : preAt s i t = preAt a i t := by
  have hc : c ∉ t := by rcases H.no with rfl | rfl <;> assumption
  apply bool_eq
  refine ⟨fun h => ?_, H.pre.up i t⟩
  unfold preAt at *
  rw [List.isPrefixOf_iff_prefix] at *
  rw [H.eq, List.drop_append_of_le_length (by rw [size_len]; exact hi)] at h
  exact pre_cross _ _ h hc
theorem while_all (p : Int → Bool) (s : ByteArray) : ∀ d i k, s.size - i ≤ d → i ≤ k → k < whileE p s i → k < s.size → p (bt s (k : Int)) = true
  | 0, i, k, hd, hik, hk, hs => by omega
  | d + 1, i, k, hd, hik, hk, hs => by
    have hi : i < s.size := by omega
    cases hp : p (bt s (i : Int)) with
    | true =>
      by_cases he : i = k
      · subst he; exact hp
      · rw [whileE_hit p s i hi hp] at hk
        exact while_all p s d (i + 1) k (by omega) (by omega) hk hs
    | false => rw [whileE_miss p s i hi hp] at hk; omega
theorem while_through (p : Int → Bool) (s : ByteArray) : ∀ d i k, k - i ≤ d → i ≤ k → k ≤ whileE p s i → k ≤ s.size → whileE p s i = whileE p s k
  | 0, i, k, hd, hik, hk, hs => by obtain rfl : i = k := by omega
                                   rfl
  | d + 1, i, k, hd, hik, hk, hs => by
    by_cases he : i = k
    · subst he; rfl
    · have hi : i < s.size := by omega
      cases hp : p (bt s (i : Int)) with
      | true =>
        rw [whileE_hit p s i hi hp] at hk ⊢
        exact while_through p s d (i + 1) k (by omega) (by omega) hk hs
      | false => rw [whileE_miss p s i hi hp] at hk; omega
theorem whileP (H : Sep a b s c) {p : Int → Bool} (h10 : p 10 = false) (h32 : p 32 = false) {i : Nat} (hi : i ≤ a.size) : whileE p s i = whileE p a i ∧ whileE p s i ≤ a.size := by
  have hs := H.size
  have hle : whileE p s i ≤ a.size := by
    rcases Nat.lt_or_ge a.size (whileE p s i) with h | h
    · have := while_all p s _ i a.size (Nat.le_refl _) hi h (by omega)
      rcases H.bt_n with e | e
      · rw [e, h10] at this; cases this
      · rw [e, h32] at this; cases this
    · exact h
  exact ⟨by rw [while_min H.pre p hi]; omega, hle⟩
theorem identP (H : Sep a b s c) {i : Nat} (hi : i ≤ a.size) : identE s i = identE a i ∧ identE s i ≤ a.size := by
  have hs := H.size
  have hle : identE s i ≤ a.size := by
    unfold identE
    rw [if_pos (by omega)]
    split
    · exact (whileP H (by decide) (by decide) hi).2
    · exact hi
  exact ⟨by rw [ident_min H.pre hi]; omega, hle⟩
theorem namedP (H : Sep a b s c) {i : Nat} (hi : i ≤ a.size) : namedE s i = namedE a i ∧ namedE s i ≤ a.size := by
  have hs := H.size
  have hle : namedE s i ≤ a.size := by
    unfold namedE
    split
    · rename_i hp
      rw [H.cross hi (by decide) (by decide)] at hp
      have h2 := preAt_le hp hi
      simp only [List.length_cons, List.length_nil] at h2
      obtain ⟨e1, e2⟩ := identP H (i := i + 2) h2
      split
      · exact hi
      · rename_i hn
        have : identE s (i + 2) ≠ a.size := by
          intro e
          apply hn
          refine .inr (.inr ?_)
          rw [e]
          rcases H.bt_n with h | h <;> rw [h] <;> decide
        omega
    · exact hi
  exact ⟨(namedT H.pre hi hle).symm, hle⟩
theorem word_le (H : Sep a b s c) : ∀ d k e, a.size - e ≤ d → e ≤ a.size → (wordE s k e).2 ≤ a.size := by
  have hs := H.size
  have hn : ∀ k, (wordE s k a.size).2 ≤ a.size := fun k => by
    rw [wordE_dot s k a.size (by omega) (by rcases H.bt_n with h | h <;> rw [h] <;> decide)]
    exact Nat.le_refl _
  intro d
  induction d with
  | zero =>
    intro k e hd he
    obtain rfl : e = a.size := by omega
    exact hn k
  | succ d ih =>
    intro k e hd he
    by_cases hlt : e < a.size
    · by_cases hb : bt s (e : Int) = 46
      · obtain ⟨e1, e2⟩ := identP H (i := e + 1) (by omega)
        have hg := identE_ge s (e + 1)
        by_cases hi : identE s (e + 1) = e + 1
        · rw [wordE_stop s k e (by omega) hi]; exact he
        · rw [wordE_step s k e (by omega) hb hi]
          exact ih _ _ (by omega) e2
      · rw [wordE_dot s k e (by omega) hb]; exact he
    · obtain rfl : e = a.size := by omega
      exact hn k
theorem index_le (H : Sep a b s c) {i : Nat} (hi : i ≤ a.size) : indexE s i ≤ a.size := by
  have hs := H.size
  unfold indexE
  rw [if_pos (by omega)]
  split
  · rename_i hd
    have hlt : i < a.size := by
      rcases Nat.lt_or_ge i a.size with h | h
      · exact h
      · obtain rfl : i = a.size := by omega
        rcases H.bt_n with h | h <;> rw [h] at hd <;> cases hd
    have := (whileP H (p := digitB) (by decide) (by decide) (show i + 1 ≤ a.size by omega)).2
    split <;> omega
  · exact hi
theorem mark_le (H : Sep a b s c) {i : Nat} {m : List UInt8} (hi : i ≤ a.size) (h10 : (10 : UInt8) ∉ m) (h32 : (32 : UInt8) ∉ m) : ∀ e, markE s i m = some e → e ≤ a.size := by
  intro e h
  unfold markE at h
  split at h
  · rename_i hp
    rw [H.cross hi h10 h32] at hp
    have h2 := preAt_le hp hi
    have := (identP H (i := i + m.length) h2).2
    split at h
    · cases h; exact this
    · cases h
  · cases h
theorem vars_le (H : Sep a b s c) {i : Nat} (hi : i ≤ a.size) : (varsE s i).2 ≤ a.size := by
  unfold varsE
  cases h1 : markE s i [39] with
  | some e => exact mark_le H hi (by decide) (by decide) e h1
  | none =>
    cases h2 : markE s i [63, 39] with
    | some e => exact index_le H (mark_le H hi (by decide) (by decide) e h2)
    | none =>
      cases h3 : markE s i [63] with
      | some e => exact index_le H (mark_le H hi (by decide) (by decide) e h3)
      | none => exact hi
theorem read_le (H : Sep a b s c) {i : Nat} (hi : i < a.size) (j : Nat) : (readE s i j).2 ≤ a.size := by
  match j with
  | 0 =>
    show (namesE s i).2 ≤ a.size
    obtain ⟨e1, e2⟩ := identP H (i := i) (by omega)
    unfold namesE
    split
    · exact word_le H _ _ _ (Nat.le_refl _) e2
    · exact e2
  | 1 => exact vars_le H (by omega)
  | 2 => exact (whileP H (p := digitB) (by decide) (by decide) (by omega)).2
  | _ + 3 =>
    show symE s i ≤ a.size
    have h1 := (namedP H (i := i) (by omega)).2
    have h2 : runE s i ≤ a.size := (whileP H (p := signB) (by decide) (by decide) (by omega)).2
    unfold symE
    split
    · split <;> omega
    · omega
theorem bestP (H : Sep a b s c) {i : Nat} (hi : i < a.size) : ∀ j, bestE s i j = bestE a i j
  | 0 => rfl
  | j + 1 => by rw [bestE, bestE, bestP H hi j, ← readT H.pre hi j (read_le H hi j)]
theorem best_le (H : Sep a b s c) {i : Nat} (hi : i < a.size) : ∀ j, (bestE s i j).2 ≤ a.size
  | 0 => Nat.le_of_lt hi
  | j + 1 => by
    rw [bestE]
    split
    · exact read_le H hi j
    · exact best_le H hi j
theorem nestP (H : Sep a b s c) {x y : List UInt8} (hx : 0 < x.length) (hy : 0 < y.length) (n1 : (10 : UInt8) ∉ x) (n2 : (32 : UInt8) ∉ x) (n3 : (10 : UInt8) ∉ y) (n4 : (32 : UInt8) ∉ y) :
    ∀ d i deep j, a.size - i ≤ d → nestE a x y i deep = some j → nestE s x y i deep = some j := by
  have hs := H.size
  have none_end : ∀ i deep j, a.size ≤ i → nestE a x y i deep = some j → False := fun i deep j hi h => by
    rw [nestE_end a x y i deep hi] at h; cases h
  intro d
  induction d with
  | zero => intro i deep j hd h; exact (none_end i deep j (by omega) h).elim
  | succ d ih =>
    intro i deep j hd h
    by_cases hi : i < a.size
    · have ew : stepW s x y i = stepW a x y i := by unfold stepW; rw [H.cross (by omega) n1 n2, H.cross (by omega) n3 n4]
      have ed : stepD s x y i = stepD a x y i := by unfold stepD; rw [H.cross (by omega) n1 n2, H.cross (by omega) n3 n4]
      have hp := stepW_pos a x y i hx hy
      by_cases h0 : deep + stepD a x y i = 0
      · rw [nestE_stop a x y i deep hi h0] at h
        rw [nestE_stop s x y i deep (by omega) (by rw [ed]; exact h0), ew]
        exact h
      · rw [nestE_step a x y hx hy i deep hi h0] at h
        rw [nestE_step s x y hx hy i deep (by omega) (by rw [ed]; exact h0), ew, ed]
        exact ih _ _ _ (by omega) h
    · exact (none_end i deep j (by omega) h).elim
theorem textP (H : Sep a b s c) : ∀ d i out r, a.size - i ≤ d → textE a i out = some r → textE s i out = some r := by
  have hs := H.size
  intro d
  induction d with
  | zero =>
    intro i out r hd h
    rw [textE_end a i out (by omega)] at h; cases h
  | succ d ih =>
    intro i out r hd h
    by_cases hi : i < a.size
    · rw [textE_eq a i out hi] at h
      rw [textE_eq s i out (by omega), H.pre.bt i hi]
      split at h
      · cases h
      · rename_i h1
        rw [if_neg h1]
        split at h
        · rename_i h2
          rw [if_pos h2]
          exact h
        · rename_i h2
          rw [if_neg h2]
          split at h
          · rename_i h3
            rw [if_pos h3]
            split at h
            · rename_i h4
              rw [if_pos (by omega), H.pre.bt (i + 1) h4]
              split at h
              · rename_i h5
                rw [if_pos h5]
                exact ih _ _ _ (by omega) h
              · rename_i h5
                rw [if_neg h5]
                split at h
                · rename_i h6
                  rw [if_pos h6]
                  exact ih _ _ _ (by omega) h
                · cases h
            · cases h
          · rename_i h3
            rw [if_neg h3]
            exact ih _ _ _ (by omega) h
    · rw [textE_end a i out (by omega)] at h; cases h
theorem oneP (H : Sep a b s c) {kw : List UInt8 → Bool} {i : Nat} (hi : i < a.size) {t : Int × ByteArray} {e : Nat} (h : oneE kw a i = .ok (t, e)) : oneE kw s i = .ok (t, e) := by
  have hs := H.size
  have hle := (oneE_lt hi h).2
  simp only at hle
  unfold oneE at *
  rw [H.pre.bt i hi, H.cross (by omega) (by decide) (by decide)]
  split at h
  · rename_i h1
    rw [if_pos h1]
    cases ht : textE a (i + 1) [] with
    | none => rw [ht] at h; cases h
    | some r =>
      rw [ht] at h
      rw [textP H _ _ _ _ (Nat.le_refl _) ht]
      exact h
  · rename_i h1
    rw [if_neg h1]
    cases hp : preAt a i opened with
    | true =>
      rw [hp, if_pos rfl] at h
      rw [if_pos rfl]
      cases ht : nestE a opened closed i 0 with
      | none => rw [ht] at h; cases h
      | some j =>
        rw [ht] at h
        rw [nestP H (by decide) (by decide) (by decide) (by decide) (by decide) (by decide) _ _ _ _ (Nat.le_refl _) ht]
        simp only [Except.ok.injEq, Prod.mk.injEq] at h
        obtain ⟨rfl, rfl⟩ := h
        simp only
        rw [H.pre.ext _ _ (by omega)]
    | false =>
      rw [hp, if_neg Bool.false_ne_true] at h
      rw [if_neg Bool.false_ne_true, H.pre.ext i _ (best_le H hi 4), bestP H hi 4]
      exact h
theorem blanks_congr {s : ByteArray} {i k : Nat} (hi : i ≤ s.size) (hk : k ≤ s.size) (h : whileE blankB s i = whileE blankB s k) : blanksE s i = blanksE s k := by
  cases hp : preAt s (whileE blankB s k) [40, 42] with
  | true =>
    cases hn : nestE s [40, 42] [42, 41] (whileE blankB s k) 0 with
    | none => rw [blanksE_err s k hp hn, blanksE_err s i (by rw [h]; exact hp) (by rw [h]; exact hn), h]
    | some e => rw [blanksE_step s k hk hp hn, blanksE_step s i hi (by rw [h]; exact hp) (by rw [h]; exact hn)]
  | false => rw [blanksE_none s k hp, blanksE_none s i (by rw [h]; exact hp), h]
theorem blanksP (H : Sep a b s c) : ∀ d i j, a.size - i ≤ d → i ≤ a.size → blanksE a i = .ok j → (j < a.size ∧ blanksE s i = .ok j) ∨ (j = a.size ∧ blanksE s i = blanksE s (a.size + 1)) := by
  have hs := H.size
  intro d
  induction d using Nat.strongRecOn with
  | _ d ih =>
    intro i j hd hi h
    have h1 := whileE_ge blankB a i
    have h2 := whileE_le blankB a i hi
    have hm := while_min H.pre blankB hi
    cases hp : preAt a (whileE blankB a i) [40, 42] with
    | true =>
      have hw : whileE blankB a i < a.size := by
        have := preAt_le hp h2
        simp only [List.length_cons, List.length_nil] at this
        omega
      have hws : whileE blankB s i = whileE blankB a i := by omega
      cases hn : nestE a [40, 42] [42, 41] (whileE blankB a i) 0 with
      | none => rw [blanksE_err a i hp hn] at h; cases h
      | some e =>
        have h3 := nestE_lt (by decide) (by decide) h2 hn
        have h4 := nestE_le h2 hn
        rw [blanksE_step a i hi hp hn] at h
        rw [blanksE_step s i (by omega) (by rw [hws]; exact H.pre.up _ _ hp) (by rw [hws]; exact nestP H (by decide) (by decide) (by decide) (by decide) (by decide) (by decide) _ _ _ _ (Nat.le_refl _) hn)]
        exact ih (a.size - e) (by omega) e j (Nat.le_refl _) h4.2 h
    | false =>
      rw [blanksE_none a i hp] at h
      have e : whileE blankB a i = j := by simpa using h
      by_cases hj : j < a.size
      · have hws : whileE blankB s i = j := by omega
        exact .inl ⟨hj, by rw [blanksE_none s i (by rw [hws, H.cross (by omega) (by decide) (by decide), ← e]; exact hp), hws]⟩
      · refine .inr ⟨by omega, blanks_congr (by omega) (by omega) ?_⟩
        rw [while_through blankB s _ i a.size (Nat.le_refl _) hi (by omega) (by omega)]
        exact whileE_hit blankB s a.size (by omega) (by rcases H.bt_n with h | h <;> rw [h] <;> decide)
/-- the tokens from a place on, behind blanks -/
def goon (kw : List UInt8 → Bool) (s : ByteArray) (i : Nat) (pre : List Tok) : List Tok × Option (Nat × Int) :=
  match blanksE s i with
  | .error p => (pre, some (p, 162))
  | .ok j => scanFrom kw s j pre
theorem scan_goon (kw : List UInt8 → Bool) (s : ByteArray) : scanE kw s = goon kw s 0 [] := rfl
theorem scanFrom_goon (kw : List UInt8 → Bool) (s : ByteArray) (i : Nat) (pre : List Tok) (h : i < s.size) : scanFrom kw s i pre =
    (match oneE kw s i with
     | .error c => (pre, some (i, c))
     | .ok ((k, t), e) => goon kw s e (pre ++ [⟨k, t, i⟩])) := scanFrom_eq kw s i pre h
theorem goonP (H : Sep a b s c) (kw : List UInt8 → Bool) : ∀ d i pre l, a.size - i ≤ d → i ≤ a.size → goon kw a i pre = (l, none) → goon kw s i pre = goon kw s (a.size + 1) l := by
  have hs := H.size
  intro d
  induction d using Nat.strongRecOn with
  | _ d ih =>
    intro i pre l hd hi h
    cases hb : blanksE a i with
    | error p => unfold goon at h; rw [hb] at h; cases h
    | ok j =>
      have hij := blanksE_le hi hb
      unfold goon at h
      rw [hb] at h
      simp only at h
      rcases blanksP H _ i j (Nat.le_refl _) hi hb with ⟨hj, hbs⟩ | ⟨hj, hbs⟩
      · rw [scanFrom_goon kw a j pre hj] at h
        have e0 : goon kw s i pre = scanFrom kw s j pre := by unfold goon; rw [hbs]
        rw [e0, scanFrom_goon kw s j pre (by omega)]
        cases ho : oneE kw a j with
        | error c => rw [ho] at h; cases h
        | ok r =>
          obtain ⟨⟨k, t⟩, e⟩ := r
          have hlt := oneE_lt hj ho
          simp only at hlt
          rw [ho] at h
          rw [oneP H hj ho]
          simp only at h ⊢
          exact ih (a.size - e) (by omega) e _ l (Nat.le_refl _) hlt.2 h
      · rw [hj, scanFrom_end kw a a.size pre (Nat.le_refl _)] at h
        cases h
        unfold goon
        rw [hbs]
end

/-- b stands in s, from place m on, to its end -/
structure Suf (m : Nat) (b s : ByteArray) : Prop where
  size : s.size = m + b.size
  bt : ∀ i : Nat, bt s ((m + i : Nat) : Int) = bt b (i : Int)
  at_ : ∀ i t, preAt s (m + i) t = preAt b i t
  ext : ∀ i j, s.extract (m + i) (m + j) = b.extract i j
theorem Suf.mk' {b s : ByteArray} {x : List UInt8} (h : s.data.toList = x ++ b.data.toList) : Suf x.length b s where
  size := by
    have := congrArg List.length h
    rw [List.length_append] at this
    exact this
  bt := fun i => by rw [bt_opt, bt_opt, h, List.getElem?_append_right (by omega), Nat.add_sub_cancel_left]
  at_ := fun i t => by unfold preAt; rw [h, ← List.drop_drop, List.drop_left]
  ext := fun i j => by
    apply ba_ext
    rw [ext_list, ext_list, h, ← List.drop_drop, List.drop_left, show x.length + j - (x.length + i) = j - i by omega]
section
variable {m : Nat} {b s : ByteArray}
theorem skipS (H : Suf m b s) (p : Int → Bool) : ∀ d i, skipW p s d (m + i) = m + skipW p b d i
  | 0, i => rfl
  | d + 1, i => by
    rw [skipW, skipW, H.bt i]
    split
    · exact skipS H p d (i + 1)
    · rfl
theorem whileS (H : Suf m b s) (p : Int → Bool) (i : Nat) : whileE p s (m + i) = m + whileE p b i := by
  unfold whileE
  rw [show s.size - (m + i) = b.size - i by have := H.size; omega]
  exact skipS H p _ i
theorem identS (H : Suf m b s) (i : Nat) : identE s (m + i) = m + identE b i := by
  have hz := H.size
  unfold identE
  rw [H.bt i]
  by_cases h : i < b.size
  · rw [if_pos h, if_pos (by omega)]
    split
    · exact whileS H _ i
    · rfl
  · rw [if_neg h, if_neg (by omega)]
theorem namedS (H : Suf m b s) (i : Nat) : namedE s (m + i) = m + namedE b i := by
  have hz := H.size
  unfold namedE
  rw [H.at_ i, Nat.add_assoc m i 2, identS H (i + 2), H.bt]
  split
  · by_cases h : identE b (i + 2) = i + 2 ∨ identE b (i + 2) = b.size ∨ bt b (identE b (i + 2) : Int) ≠ 62
    · rw [if_pos h, if_pos]
      rcases h with h | h | h
      · exact .inl (by omega)
      · exact .inr (.inl (by omega))
      · exact .inr (.inr h)
    · rw [if_neg h, if_neg]
      · rfl
      · rintro (h' | h' | h')
        · exact h (.inl (by omega))
        · exact h (.inr (.inl (by omega)))
        · exact h (.inr (.inr h'))
  · rfl
theorem stepS (H : Suf m b s) (x y : List UInt8) (i : Nat) : stepW s x y (m + i) = stepW b x y i ∧ stepD s x y (m + i) = stepD b x y i := by
  unfold stepW stepD
  rw [H.at_ i, H.at_ i]
  exact ⟨rfl, rfl⟩
theorem nestFS (H : Suf m b s) (x y : List UInt8) : ∀ d i deep, nestF s x y d (m + i) deep = (nestF b x y d i deep).map (m + ·) := by
  have hz := H.size
  intro d
  induction d with
  | zero => intro i deep; rfl
  | succ d ih =>
    intro i deep
    obtain ⟨e1, e2⟩ := stepS H x y i
    rw [nestF, nestF, e1, e2, Nat.add_assoc m i]
    by_cases h : i < b.size
    · rw [if_pos h, if_pos (by omega)]
      split
      · rfl
      · exact ih _ _
    · rw [if_neg h, if_neg (by omega)]; rfl
theorem nestS (H : Suf m b s) (x y : List UInt8) (i : Nat) (deep : Int) : nestE s x y (m + i) deep = (nestE b x y i deep).map (m + ·) := by
  unfold nestE
  rw [show s.size - (m + i) + 1 = b.size - i + 1 by have := H.size; omega]
  exact nestFS H x y _ i deep
def shE (m : Nat) : Except Nat Nat → Except Nat Nat
  | .ok j => .ok (m + j)
  | .error p => .error (m + p)
theorem blanksFS (H : Suf m b s) : ∀ d i, blanksF s d (m + i) = shE m (blanksF b d i) := by
  intro d
  induction d with
  | zero => intro i; rfl
  | succ d ih =>
    intro i
    rw [blanksF, blanksF, whileS H, H.at_, nestS H]
    split
    · cases nestE b [40, 42] [42, 41] (whileE blankB b i) 0 with
      | none => rfl
      | some e => exact ih e
    · rfl
theorem blanksS (H : Suf m b s) (i : Nat) : blanksE s (m + i) = shE m (blanksE b i) := by
  unfold blanksE
  rw [show s.size - (m + i) + 1 = b.size - i + 1 by have := H.size; omega]
  exact blanksFS H _ i
def shP (m : Nat) (r : Int × Nat) : Int × Nat := (r.1, m + r.2)
theorem indexS (H : Suf m b s) (i : Nat) : indexE s (m + i) = m + indexE b i := by
  have hz := H.size
  unfold indexE
  rw [H.bt i, Nat.add_assoc m i 1, whileS H]
  by_cases h : i < b.size
  · rw [if_pos h, if_pos (by omega)]
    split
    · by_cases h2 : i + 1 < whileE digitB b (i + 1)
      · rw [if_pos h2, if_pos (by omega)]
      · rw [if_neg h2, if_neg (by omega)]
    · rfl
  · rw [if_neg h, if_neg (by omega)]
theorem wordFS (H : Suf m b s) : ∀ d k e, wordF s d k (m + e) = shP m (wordF b d k e) := by
  have hz := H.size
  intro d
  induction d with
  | zero => intro k e; rfl
  | succ d ih =>
    intro k e
    rw [wordF, wordF, H.bt e, Nat.add_assoc m e 1, identS H]
    by_cases h : e < b.size
    · rw [if_pos h, if_pos (by omega)]
      split
      · by_cases h2 : identE b (e + 1) = e + 1
        · rw [if_pos h2, if_pos (by omega)]; rfl
        · rw [if_neg h2, if_neg (by omega)]; exact ih _ _
      · rfl
    · rw [if_neg h, if_neg (by omega)]; rfl
theorem namesS (H : Suf m b s) (i : Nat) : namesE s (m + i) = shP m (namesE b i) := by
  have hz := H.size
  unfold namesE
  rw [identS H]
  by_cases h : i < identE b i
  · rw [if_pos h, if_pos (by omega)]
    unfold wordE
    rw [show s.size - (m + identE b i) = b.size - identE b i by omega]
    exact wordFS H _ _ _
  · rw [if_neg h, if_neg (by omega)]; rfl
theorem markS (H : Suf m b s) (i : Nat) (t : List UInt8) : markE s (m + i) t = (markE b i t).map (m + ·) := by
  unfold markE
  rw [H.at_ i, Nat.add_assoc m i, identS H]
  split
  · by_cases h : i + t.length < identE b (i + t.length)
    · rw [if_pos h, if_pos (by omega)]; rfl
    · rw [if_neg h, if_neg (by omega)]; rfl
  · rfl
theorem varsS (H : Suf m b s) (i : Nat) : varsE s (m + i) = shP m (varsE b i) := by
  unfold varsE
  rw [markS H, markS H, markS H]
  cases markE b i [39] with
  | some e => rfl
  | none =>
    cases markE b i [63, 39] with
    | some e => show ((5 : Int), indexE s (m + e)) = _; rw [indexS H]; rfl
    | none =>
      cases markE b i [63] with
      | some e => show ((4 : Int), indexE s (m + e)) = _; rw [indexS H]; rfl
      | none => rfl
theorem symS (H : Suf m b s) (i : Nat) : symE s (m + i) = m + symE b i := by
  unfold symE runE
  rw [namedS H, whileS H, H.bt i]
  by_cases h : max (namedE b i) (whileE signB b i) = i
  · rw [if_pos h, if_pos (by omega)]
    split <;> omega
  · rw [if_neg h, if_neg (by omega)]
    omega
theorem readS (H : Suf m b s) (i : Nat) (j : Nat) : readE s (m + i) j = shP m (readE b i j) := by
  match j with
  | 0 => exact namesS H i
  | 1 => exact varsS H i
  | 2 => show ((6 : Int), whileE digitB s (m + i)) = _; rw [whileS H]; rfl
  | _ + 3 => show ((7 : Int), symE s (m + i)) = _; rw [symS H]; rfl
theorem bestS (H : Suf m b s) (i : Nat) : ∀ j, bestE s (m + i) j = shP m (bestE b i j)
  | 0 => rfl
  | j + 1 => by
    rw [bestE, bestE, bestS H i j, readS H]
    have e : ((shP m (bestE b i j)).2 < (shP m (readE b i j)).2) = ((bestE b i j).2 < (readE b i j).2) := by
      unfold shP
      simp only
      rw [Nat.add_lt_add_iff_left]
    by_cases h : (bestE b i j).2 < (readE b i j).2
    · rw [if_pos h, if_pos (by rw [e]; exact h)]
    · rw [if_neg h, if_neg (by rw [e]; exact h)]
def shT (m : Nat) (t : Tok) : Tok := ⟨t.kind, t.text, m + t.at_⟩
def shX (m : Nat) (r : List UInt8 × Nat) : List UInt8 × Nat := (r.1, m + r.2)
theorem textFS (H : Suf m b s) : ∀ d i out, textF s d (m + i) out = (textF b d i out).map (shX m) := by
  have hz := H.size
  intro d
  induction d with
  | zero => intro i out; rfl
  | succ d ih =>
    intro i out
    rw [textF, textF, H.bt i, Nat.add_assoc m i 1, Nat.add_assoc m i 2, H.bt (i + 1), ih, ih, ih]
    by_cases h : i < b.size
    · rw [if_pos h, if_pos (by omega)]
      split
      · rfl
      · split
        · rfl
        · split
          · by_cases h2 : i + 1 < b.size
            · rw [if_pos h2, if_pos (by omega)]
              split
              · rfl
              · split <;> rfl
            · rw [if_neg h2, if_neg (by omega)]; rfl
          · rfl
    · rw [if_neg h, if_neg (by omega)]; rfl
theorem textS (H : Suf m b s) (i : Nat) (out : List UInt8) : textE s (m + i) out = (textE b i out).map (shX m) := by
  unfold textE
  rw [show s.size - (m + i) = b.size - i by have := H.size; omega]
  exact textFS H _ i out
def shO (m : Nat) : Except Int ((Int × ByteArray) × Nat) → Except Int ((Int × ByteArray) × Nat)
  | .ok (t, e) => .ok (t, m + e)
  | .error c => .error c
theorem oneS (H : Suf m b s) (kw : List UInt8 → Bool) {i : Nat} (hi : i < b.size) : oneE kw s (m + i) = shO m (oneE kw b i) := by
  unfold oneE
  rw [H.bt i, H.at_ i, Nat.add_assoc m i 1, textS H, nestS H, bestS H]
  split
  · cases textE b (i + 1) [] with
    | none => rfl
    | some r => rfl
  · split
    · rename_i hp
      cases hn : nestE b opened closed i 0 with
      | none => rfl
      | some e =>
        have := nestE_both (Nat.le_of_lt hi) hp hn
        simp only [opened, closed, List.length_cons, List.length_nil] at this
        simp only [Option.map_some]
        rw [Nat.add_assoc m i 7, show m + e - 8 = m + (e - 8) by omega, H.ext]
        rfl
    · have e1 : (shP m (bestE b i 4)).2 = m + (bestE b i 4).2 := rfl
      have e2 : (shP m (bestE b i 4)).1 = (bestE b i 4).1 := rfl
      rw [e1, e2, H.ext]
      by_cases h : (bestE b i 4).2 = i ∨ (b.extract i (bestE b i 4).2).data.toList = closed
      · rw [if_pos h, if_pos (by rcases h with h | h; exact .inl (by omega); exact .inr h)]; rfl
      · rw [if_neg h, if_neg (by rintro (h' | h'); exact h (.inl (by omega)); exact h (.inr h'))]; rfl
def shR (m : Nat) (l : List Tok) (r : List Tok × Option (Nat × Int)) : List Tok × Option (Nat × Int) := (l ++ r.1.map (shT m), r.2.map (fun x => (m + x.1, x.2)))
theorem scanFS (H : Suf m b s) (kw : List UInt8 → Bool) (l : List Tok) : ∀ d i pre, scanF kw s d (m + i) (l ++ pre.map (shT m)) = shR m l (scanF kw b d i pre) := by
  have hz := H.size
  intro d
  induction d with
  | zero => intro i pre; rfl
  | succ d ih =>
    intro i pre
    rw [scanF, scanF]
    by_cases h : i < b.size
    · rw [if_pos h, if_pos (by omega), oneS H kw h]
      cases oneE kw b i with
      | error c => rfl
      | ok r =>
        obtain ⟨⟨k, t⟩, e⟩ := r
        simp only [shO]
        rw [blanksS H]
        have ep : l ++ pre.map (shT m) ++ [(⟨k, t, m + i⟩ : Tok)] = l ++ (pre ++ [(⟨k, t, i⟩ : Tok)]).map (shT m) := by
          rw [List.map_append, List.append_assoc]; rfl
        rw [ep]
        cases blanksE b e with
        | error p => rfl
        | ok j => exact ih j _
    · rw [if_neg h, if_neg (by omega)]; rfl
theorem goonS (H : Suf m b s) (kw : List UInt8 → Bool) (l : List Tok) (i : Nat) (pre : List Tok) : goon kw s (m + i) (l ++ pre.map (shT m)) = shR m l (goon kw b i pre) := by
  unfold goon
  rw [blanksS H]
  cases blanksE b i with
  | error p => rfl
  | ok j =>
    show scanFrom kw s (m + j) _ = shR m l (scanFrom kw b j pre)
    unfold scanFrom
    rw [show s.size - (m + j) + 1 = b.size - j + 1 by have := H.size; omega]
    exact scanFS H kw l _ j pre
end
/-- two texts with a blank between them: the tokens of both, if the first one has no error -/
theorem scan_parts {a b s : ByteArray} {c : UInt8} (H : Sep a b s c) (kw : List UInt8 → Bool) {l : List Tok} (h : scanE kw a = (l, none)) :
    scanE kw s = (l ++ (scanE kw b).1.map (shT (a.size + 1)), (scanE kw b).2.map (fun x => (a.size + 1 + x.1, x.2))) := by
  rw [scan_goon] at h ⊢
  rw [goonP H kw _ 0 [] l (Nat.le_refl _) (Nat.zero_le _) h]
  have S : Suf (a.size + 1) b s := by
    have := Suf.mk' (b := b) (s := s) (x := a.data.toList ++ [c]) (by rw [H.eq]; simp)
    rw [List.length_append] at this
    exact this
  have := goonS S kw l 0 []
  rw [List.map_nil, List.append_nil] at this
  exact this
end Go.Proofs.YtmkfeanggmjhmaaGreat.Q
