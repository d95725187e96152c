/- The reference of sorts, pure: its searches are those of the plain model.  No program in sight. -/
import Derived.Test.YthfomoigaoffgaaO3
import Derived.Test.YthfomoigaoffgaaIx
namespace Go.Proofs.Ythfomoigaoffgaa.O
set_option linter.unusedSimpArgs false
set_option linter.unusedVariables false
open Go Go.Proofs.Ythfomoigaoffgaa.Ix

/-- the index of a class -/
def cidx (cs : List Cl) (a : ByteArray) : Int := idxP (fun c : Cl => c.1 == a) cs 0
theorem cidx_cases (cs : List Cl) (a : ByteArray) : cidx cs a = -1 ∧ (∀ c ∈ cs, c.1 ≠ a) ∨ ∃ k, ∃ h : k < cs.length, cidx cs a = (k : Int) ∧ (cs[k]'h).1 = a ∧ ∀ j (hj : j < k), (cs[j]'(Nat.lt_trans hj h)).1 ≠ a := by
  rcases idxP_range (fun c : Cl => c.1 == a) cs 0 with e | ⟨k, hk, e, h1, h2⟩
  · refine .inl ⟨e, fun c hc he => ?_⟩
    have h := idxP_any (fun c : Cl => c.1 == a) cs 0
    rw [e, decide_eq_false (by decide)] at h
    have := List.any_eq_false.1 h.symm c hc
    exact this ((beq_iff _ _).2 he)
  · refine .inr ⟨k, hk, by rw [← Nat.zero_add k]; exact e, (beq_iff _ _).1 h1, fun j hj he => ?_⟩
    have := h2 j hj
    rw [(beq_iff _ _).2 he] at this
    exact absurd this (by decide)
theorem cidx_has (cs : List Cl) (a : ByteArray) : decide (0 ≤ cidx cs a) = has cs a := idxP_any _ cs 0
theorem cidx_met (cs : List Cl) (a : ByteArray) (i : Nat) : ((cs.take i).map (·.1)).contains a = (decide (0 ≤ cidx cs a) && decide (cidx cs a < (i : Int))) := by
  rw [Bool.eq_iff_iff, List.contains_iff_mem, List.mem_map, Bool.and_eq_true, decide_eq_true_eq, decide_eq_true_eq]
  rcases cidx_cases cs a with ⟨e, h⟩ | ⟨k, hk, e, h1, h2⟩
  · rw [e]
    constructor
    · rintro ⟨c, hc, hc2⟩
      exact absurd hc2 (h c (List.mem_of_mem_take hc))
    · rintro ⟨h0, _⟩
      exact absurd h0 (by decide)
  · rw [e]
    constructor
    · rintro ⟨c, hc, hc2⟩
      obtain ⟨j, hj, rfl⟩ := List.mem_iff_getElem.1 hc
      rw [List.length_take] at hj
      rw [List.getElem_take] at hc2
      refine ⟨by omega, ?_⟩
      by_cases hjk : j < k
      · exact absurd hc2 (h2 j hjk)
      · omega
    · rintro ⟨_, h3⟩
      exact ⟨cs[k]'hk, List.mem_iff_getElem.2 ⟨k, by rw [List.length_take]; omega, by rw [List.getElem_take]⟩, h1⟩
theorem cidx_dup (cs : List Cl) (i : Nat) (hi : i < cs.length) : ((cs.take i).map (·.1)).contains (cs[i]'hi).1 = !(cidx cs (cs[i]'hi).1 == (i : Int)) := by
  rw [cidx_met]
  rcases cidx_cases cs (cs[i]'hi).1 with ⟨e, h⟩ | ⟨k, hk, e, h1, h2⟩
  · exact absurd rfl (h _ (List.getElem_mem hi))
  · rw [e, Bool.eq_iff_iff, Bool.and_eq_true, decide_eq_true_eq, decide_eq_true_eq, Bool.not_eq_true', beq_eq_false_iff_ne]
    by_cases hki : k ≤ i
    · omega
    · exact absurd rfl (h2 i (by omega))

/-! ### above -/
def markS (cs : List Cl) (out : List Bool) (l : List ByteArray) : List Bool := l.foldl (fun o s => o.set (cidx cs s).toNat true) out
def abR (cs : List Cl) : Nat → List Bool → List Bool
  | 0, out => out
  | k + 1, out => abR cs k (if out[k]?.getD false then markS cs out ((cs[k]?.map (·.2)).getD []) else out)
theorem markS_len (cs : List Cl) : ∀ (l : List ByteArray) (out : List Bool), (markS cs out l).length = out.length
  | [], _ => rfl
  | s :: r, out => by
    show (markS cs (out.set _ true) r).length = _
    rw [markS_len cs r, List.length_set]
theorem abR_len (cs : List Cl) : ∀ (k : Nat) (out : List Bool), (abR cs k out).length = out.length
  | 0, _ => rfl
  | k + 1, out => by
    rw [abR, abR_len cs k]
    split
    · exact markS_len ..
    · rfl
theorem markS_get (cs : List Cl) : ∀ (l : List ByteArray) (out : List Bool) (j : Nat), j < out.length → ((markS cs out l)[j]? = some true ↔ out[j]? = some true ∨ ∃ s ∈ l, (cidx cs s).toNat = j)
  | [], out, j, hj => by simp [markS]
  | s :: r, out, j, hj => by
    show ((markS cs (out.set _ true) r)[j]? = some true ↔ _)
    rw [markS_get cs r _ j (by rw [List.length_set]; exact hj), List.getElem?_set]
    constructor
    · rintro (h | ⟨x, hx, e⟩)
      · by_cases e : (cidx cs s).toNat = j
        · exact .inr ⟨s, List.mem_cons_self .., e⟩
        · rw [if_neg e] at h
          exact .inl h
      · exact .inr ⟨x, List.mem_cons_of_mem _ hx, e⟩
    · rintro (h | ⟨x, hx, e⟩)
      · by_cases e : (cidx cs s).toNat = j
        · rw [if_pos e, if_pos (by omega)]; exact .inl rfl
        · rw [if_neg e]; exact .inl h
      · rcases List.mem_cons.1 hx with rfl | hx
        · rw [if_pos e, if_pos (by omega)]; exact .inl rfl
        · exact .inr ⟨x, hx, e⟩

section
variable {cs : List Cl} (hR : Right [] cs)
include hR
theorem cidx_at {i : Nat} (hi : i < cs.length) : cidx cs (cs[i]'hi).1 = (i : Int) := by
  rcases cidx_cases cs (cs[i]'hi).1 with ⟨e, h⟩ | ⟨k, hk, e, h1, h2⟩
  · exact absurd rfl (h _ (List.getElem_mem hi))
  · rw [e, names_inj hR hk hi h1]
/-- the classes above class a: marked -/
structure AbInv (cs : List Cl) (a k : Nat) (out : List Bool) : Prop where
  len : out.length = cs.length
  self : out[a]? = some true
  sound : ∀ j (hj : j < cs.length), out[j]? = some true → ∃ ha : a < cs.length, Reach cs (cs[a]'ha).1 (cs[j]'hj).1
  closed : ∀ j (hj : j < cs.length), k ≤ j → out[j]? = some true → ∀ s ∈ (cs[j]'hj).2, ∃ q, ∃ hq : q < cs.length, (cs[q]'hq).1 = s ∧ out[q]? = some true
theorem abR_inv (a : Nat) : ∀ (k : Nat) (out : List Bool), k ≤ cs.length → AbInv cs a k out → AbInv cs a 0 (abR cs k out)
  | 0, out, _, h => h
  | k + 1, out, hk, h => by
    rw [abR]
    refine abR_inv a k _ (by omega) ?_
    have hkl : k < cs.length := by omega
    have hsup : ((cs[k]?.map (·.2)).getD []) = (cs[k]'hkl).2 := by rw [List.getElem?_eq_getElem hkl]; rfl
    rw [hsup]
    have hkb : ∃ b, out[k]? = some b := ⟨_, List.getElem?_eq_getElem (by rw [h.len]; exact hkl)⟩
    obtain ⟨b, hb⟩ := hkb
    rw [hb]
    cases b with
    | false =>
      show AbInv cs a k out
      refine ⟨h.len, h.self, h.sound, fun j hj hkj hjt s hs => ?_⟩
      by_cases e : j = k
      · subst e; rw [hb] at hjt; cases hjt
      · exact h.closed j hj (by omega) hjt s hs
    | true =>
      show AbInv cs a k (markS cs out (cs[k]'hkl).2)
      have hidx : ∀ s ∈ (cs[k]'hkl).2, ∃ q, ∃ hq : q < cs.length, q < k ∧ (cs[q]'hq).1 = s ∧ (cidx cs s).toNat = q := fun s hs => by
        rcases hR.sup k hkl s hs with h1 | ⟨q, hq, hlt, e3⟩
        · exact absurd h1 List.not_mem_nil
        · refine ⟨q, hq, hlt, e3, ?_⟩
          rw [← e3, cidx_at hR hq]
          omega
      have hg := fun j (hj : j < cs.length) => markS_get cs (cs[k]'hkl).2 out j (by rw [h.len]; exact hj)
      have hal : a < cs.length := by
        have := (List.getElem?_eq_some_iff.1 h.self).1
        rw [h.len] at this
        exact this
      refine ⟨by rw [markS_len, h.len], (hg a hal).2 (.inl h.self), fun j hj hjt => ?_, fun j hj hkj hjt s hs => ?_⟩
      · rcases (hg j hj).1 hjt with h1 | ⟨s, hs, e⟩
        · exact h.sound j hj h1
        · obtain ⟨q, hq, _, e2, e3⟩ := hidx s hs
          obtain ⟨ha, hr⟩ := h.sound k hkl hb
          refine ⟨ha, ?_⟩
          have : q = j := by omega
          subst this
          refine hr.step ?_
          rw [sups_at hR hkl, e2]
          exact hs
      · by_cases e : j = k
        · subst e
          obtain ⟨q, hq, _, e2, e3⟩ := hidx s hs
          exact ⟨q, hq, e2, (hg q hq).2 (.inr ⟨s, hs, e3⟩)⟩
        · rcases (hg j hj).1 hjt with h1 | ⟨s', hs', e'⟩
          · obtain ⟨q, hq, e2, e3⟩ := h.closed j hj (by omega) h1 s hs
            exact ⟨q, hq, e2, (hg q hq).2 (.inl e3)⟩
          · obtain ⟨q, hq, hlt, _, e3⟩ := hidx s' hs'
            omega
theorem abR_below {a j : Nat} (ha : a < cs.length) (hj : j < cs.length) : (abR cs (a + 1) ((List.replicate cs.length false).set a true))[j]? = some (belowB cs (cs[a]'ha).1 (cs[j]'hj).1) := by
  have h0 : AbInv cs a (a + 1) ((List.replicate cs.length false).set a true) := by
    have hg : ∀ j, j < cs.length → (((List.replicate cs.length false).set a true)[j]? = some true ↔ j = a) := fun j hj => by
      rw [List.getElem?_set]
      by_cases e : a = j
      · rw [if_pos e, if_pos (by simpa using ha)]; simp [e]
      · rw [if_neg e, List.getElem?_replicate, if_pos hj]
        simp [Ne.symm e]
    refine ⟨by simp, (hg a ha).2 rfl, fun j hj hjt => ⟨ha, ?_⟩, fun j hj hkj hjt => ?_⟩
    · have := (hg j hj).1 hjt
      subst this
      exact .refl
    · have := (hg j hj).1 hjt
      omega
  have h1 := abR_inv hR a (a + 1) _ (by omega) h0
  generalize abR cs (a + 1) ((List.replicate cs.length false).set a true) = out at h1
  have hb : ∃ b, out[j]? = some b := ⟨_, List.getElem?_eq_getElem (by rw [h1.len]; exact hj)⟩
  obtain ⟨b, hb⟩ := hb
  rw [hb]
  congr 1
  rw [Bool.eq_iff_iff, below_iff]
  constructor
  · rintro rfl
    obtain ⟨_, h⟩ := h1.sound j hj hb
    exact h
  · intro hr
    have key : ∀ x, Reach cs (cs[a]'ha).1 x → ∃ q, ∃ hq : q < cs.length, (cs[q]'hq).1 = x ∧ out[q]? = some true := by
      intro x hx
      induction hx with
      | refl => exact ⟨a, ha, rfl, h1.self⟩
      | step _ hs ih =>
        obtain ⟨q, hq, e, hm⟩ := ih
        rw [← e, sups_at hR hq] at hs
        exact h1.closed q hq (Nat.zero_le _) hm _ hs
    obtain ⟨q, hq, e, hm⟩ := key _ hr
    have := names_inj hR hq hj e
    subst this
    rw [hb] at hm
    injection hm
end

/-! ### put, least -/
def putR (s : ByteArray) : Bool → List ByteArray → List ByteArray
  | done, [] => if done then [] else [s]
  | done, x :: r => (if !done && !(less x s) then (if x == s then [x] else [s, x]) else [x]) ++ putR s (done || !(less x s)) r
theorem putR_done (s : ByteArray) : ∀ l, putR s true l = l
  | [] => rfl
  | x :: r => by rw [putR, Bool.true_or, putR_done s r]; rfl
theorem putR_eq (s : ByteArray) : ∀ l, putR s false l = put l s
  | [] => rfl
  | x :: r => by
    rw [putR, put]
    cases h : less x s with
    | true => rw [if_pos rfl]; simp [putR_eq s r]
    | false =>
      simp only [Bool.not_false, Bool.and_self, Bool.or_true, if_true, putR_done]
      cases hb : (x == s) with
      | true => simp
      | false => simp
def dropB (cs : List Cl) (s : List ByteArray) (x : ByteArray) : Bool := s.any (fun d => d != x && belowB cs d x)
def leastR (cs : List Cl) (s : List ByteArray) : List ByteArray → List ByteArray → List ByteArray
  | out, [] => out
  | out, x :: r => leastR cs s (if dropB cs s x then out else put out x) r
theorem leastR_spec (cs : List Cl) (s : List ByteArray) : ∀ (l out : List ByteArray), Asc out → Asc (leastR cs s out l) ∧ ∀ x, x ∈ leastR cs s out l ↔ x ∈ out ∨ (x ∈ l ∧ dropB cs s x = false)
  | [], out, h => ⟨h, fun x => by simp [leastR]⟩
  | y :: r, out, h => by
    rw [leastR]
    cases hd : dropB cs s y with
    | true =>
      rw [if_pos rfl]
      obtain ⟨h1, h2⟩ := leastR_spec cs s r out h
      refine ⟨h1, fun x => (h2 x).trans ?_⟩
      constructor
      · rintro (h | ⟨h, k⟩)
        · exact .inl h
        · exact .inr ⟨List.mem_cons_of_mem _ h, k⟩
      · rintro (h | ⟨h, k⟩)
        · exact .inl h
        · rcases List.mem_cons.1 h with rfl | h
          · rw [hd] at k; cases k
          · exact .inr ⟨h, k⟩
    | false =>
      rw [if_neg (by decide)]
      obtain ⟨h1, h2⟩ := leastR_spec cs s r (put out y) (put_asc _ _ h)
      refine ⟨h1, fun x => (h2 x).trans ?_⟩
      rw [put_mem]
      constructor
      · rintro ((rfl | h) | ⟨h, k⟩)
        · exact .inr ⟨List.mem_cons_self .., hd⟩
        · exact .inl h
        · exact .inr ⟨List.mem_cons_of_mem _ h, k⟩
      · rintro (h | ⟨h, k⟩)
        · exact .inl (.inr h)
        · rcases List.mem_cons.1 h with rfl | h
          · exact .inl (.inl rfl)
          · exact .inr ⟨h, k⟩
theorem leastR_eq (cs : List Cl) (s : List ByteArray) : leastR cs s [] s = leastB cs s := by
  obtain ⟨h1, h2⟩ := leastR_spec cs s s [] List.Pairwise.nil
  refine least_ext h1 (fun x => (h2 x).trans ?_)
  constructor
  · rintro (h | ⟨h, k⟩)
    · exact absurd h List.not_mem_nil
    · refine ⟨h, fun d hd hne => ?_⟩
      have := List.any_eq_false.1 k d hd
      cases hb : belowB cs d x with
      | false => rfl
      | true => rw [hb, Bool.and_true] at this; exact absurd (bne_iff_ne.2 hne) this
  · rintro ⟨h, k⟩
    refine .inr ⟨h, List.any_eq_false.2 fun d hd hb => ?_⟩
    rw [Bool.and_eq_true, bne_iff_ne] at hb
    rw [k d hd hb.1] at hb
    exact absurd hb.2 (by decide)
/-- the error of sorts -/
def sortsE (cs : List Cl) : List (List ByteArray) → Int
  | [] => 0
  | s :: r => if 20 < s.length then 5 else if knownB cs s then sortsE cs r else 9
def sortsA (cs : List Cl) (l : List (List ByteArray)) : Int := if classesE cs ≠ 0 then classesE cs else sortsE cs l
theorem norm_ref (cs : List Cl) (s : List ByteArray) : normB cs s = if sortsA cs [s] ≠ 0 then ([], sortsA cs [s]) else (leastB cs s, 0) := by
  unfold normB sortsA sortsE sortsE
  by_cases h : classesE cs = 0
  · simp only [h, ne_eq, not_true_eq_false, if_false]
    by_cases h2 : 20 < s.length
    · simp [h2]
    · cases h3 : knownB cs s <;> simp [h2, h3]
  · simp [h]
theorem meet_ref (cs : List Cl) (a b : List ByteArray) : meetB cs a b = if sortsA cs [a, b] ≠ 0 then ([], sortsA cs [a, b]) else if 20 < (leastB cs (a ++ b)).length then ([], 5) else (leastB cs (a ++ b), 0) := by
  unfold meetB normB sortsA
  simp only [sortsE]
  by_cases h : classesE cs = 0
  · simp only [h, ne_eq, not_true_eq_false, if_false]
    by_cases h2 : 20 < a.length
    · simp [h2]
    · cases h3 : knownB cs a with
      | false => simp [h2, h3]
      | true =>
        by_cases h4 : 20 < b.length
        · simp [h2, h3, h4]
        · cases h5 : knownB cs b <;> simp [h2, h3, h4, h5]
  · simp [h]
end Go.Proofs.Ythfomoigaoffgaa.O
