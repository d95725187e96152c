/- Plain model of sorts: errors of classes, sorts within others, the least classes.  No program in sight. -/
import Derived.Test.YthfomoigaoffgaaO1
namespace Go.Proofs.Ythfomoigaoffgaa.O
set_option linter.unusedSimpArgs false
set_option linter.unusedVariables false
open Go

def bz (s : ByteArray) (i : Nat) : Nat := match s.data.toList[i]? with
  | some b => b.toNat
  | none => 0
def letB (c : UInt8) : Bool := decide (97 ≤ c.toNat ∧ c.toNat ≤ 122) || decide (65 ≤ c.toNat ∧ c.toNat ≤ 90)
def digB (c : UInt8) : Bool := decide (48 ≤ c.toNat ∧ c.toNat ≤ 57)
def nameChar (c : UInt8) : Bool := letB c || digB c || c == 95 || c == 39 || c == 46
/-- is a text a name? -/
def nameB (s : ByteArray) : Bool := match s.data.toList with
  | [] => false
  | c :: r => decide (s.size ≤ 40) && (letB c || c == 95) && (c :: r).all nameChar
/-- does a name not ascend behind the one ahead? -/
def outB : Option ByteArray → ByteArray → Bool
  | some p, s => !less p s
  | none, _ => false
def supE (met : List ByteArray) : Option ByteArray → List ByteArray → Int
  | _, [] => 0
  | prev, s :: r => if met.contains s then (if outB prev s then 17 else supE met (some s) r) else 9
def clsE : List ByteArray → List Cl → Int
  | _, [] => 0
  | met, c :: r => if nameB c.1 then (if met.contains c.1 then 10 else if 20 < c.2.length then 5 else if supE met none c.2 ≠ 0 then supE met none c.2 else clsE (met ++ [c.1]) r) else 30
/-- the error of the classes -/
def classesE (cs : List Cl) : Int := if 300 < cs.length then 5 else clsE [] cs

theorem supE_mem {met : List ByteArray} : ∀ (l : List ByteArray) (p : Option ByteArray), supE met p l = 0 → ∀ s ∈ l, s ∈ met
  | [], _, _, s, hs => absurd hs List.not_mem_nil
  | x :: r, p, h, s, hs => by
    unfold supE at h
    split at h
    · rename_i hx
      split at h
      · exact absurd h (by decide)
      · rcases List.mem_cons.1 hs with rfl | hs
        · simpa using hx
        · exact supE_mem r _ h s hs
    · exact absurd h (by decide)
/-- right classes: each one's superclasses stand ahead, names are different -/
structure Right (met : List ByteArray) (cs : List Cl) : Prop where
  nodup : (cs.map (·.1)).Nodup
  fresh : ∀ c ∈ cs, c.1 ∉ met
  sup : ∀ i (h : i < cs.length), ∀ s ∈ (cs[i]'h).2, s ∈ met ∨ ∃ j, ∃ k : j < cs.length, j < i ∧ (cs[j]'k).1 = s
theorem clsE_right : ∀ (cs : List Cl) (met : List ByteArray), clsE met cs = 0 → Right met cs
  | [], met, _ => ⟨by simp, fun c h => absurd h List.not_mem_nil, fun i h => absurd h (Nat.not_lt_zero _)⟩
  | c :: r, met, h => by
    unfold clsE at h
    split at h
    · split at h
      · exact absurd h (by decide)
      · rename_i hm
        split at h
        · exact absurd h (by decide)
        · split at h
          · rename_i h1; exact absurd h h1
          · rename_i h1
            have h1 : supE met none c.2 = 0 := Decidable.byContradiction h1
            have ih := clsE_right r _ h
            have hcm : c.1 ∉ met := by simpa using hm
            refine ⟨?_, ?_, ?_⟩
            · rw [List.map_cons, List.nodup_cons]
              refine ⟨fun hc => ?_, ih.nodup⟩
              obtain ⟨d, hd, e⟩ := List.mem_map.1 hc
              exact ih.fresh d hd (by rw [e]; exact List.mem_append_right _ (List.mem_singleton.2 rfl))
            · intro d hd
              rcases List.mem_cons.1 hd with rfl | hd
              · exact hcm
              · exact fun hx => ih.fresh d hd (List.mem_append_left _ hx)
            · intro i hi s hs
              cases i with
              | zero => exact .inl (supE_mem _ _ h1 s hs)
              | succ i =>
                have hi' : i < r.length := by simpa using hi
                rcases ih.sup i hi' s hs with h2 | ⟨j, k, hj, e⟩
                · rcases List.mem_append.1 h2 with h2 | h2
                  · exact .inl h2
                  · exact .inr ⟨0, by simp, by omega, (List.mem_singleton.1 h2).symm⟩
                · exact .inr ⟨j + 1, by simpa using k, by omega, e⟩
    · exact absurd h (by decide)

/-- all classes of the second sort have one of the first below -/
def withinB (cs : List Cl) (a b : List ByteArray) : Bool := b.all (fun c => a.any (fun d => belowB cs d c))
def knownB (cs : List Cl) (s : List ByteArray) : Bool := s.all (has cs)
def lessB (cs : List Cl) (a b : List ByteArray) : Bool := decide (classesE cs = 0) && (knownB cs (a ++ b) && withinB cs a b)
/-- a name into an ascending list, once -/
def put : List ByteArray → ByteArray → List ByteArray
  | [], s => [s]
  | x :: r, s => if less x s then x :: put r s else if x == s then x :: r else s :: x :: r
def setOf (s : List ByteArray) : List ByteArray := s.foldl put []
def leastB (cs : List Cl) (s : List ByteArray) : List ByteArray := (setOf s).filter (fun c => !(s.any (fun d => d != c && belowB cs d c)))
def normB (cs : List Cl) (s : List ByteArray) : List ByteArray × Int :=
  if classesE cs ≠ 0 then ([], classesE cs) else if 20 < s.length then ([], 5) else if knownB cs s then (leastB cs s, 0) else ([], 9)
def meetB (cs : List Cl) (a b : List ByteArray) : List ByteArray × Int :=
  if (normB cs a).2 ≠ 0 then ([], (normB cs a).2) else if (normB cs b).2 ≠ 0 then ([], (normB cs b).2) else
    if 20 < (leastB cs (a ++ b)).length then ([], 5) else (leastB cs (a ++ b), 0)

theorem put_mem : ∀ (l : List ByteArray) (s x : ByteArray), x ∈ put l s ↔ x = s ∨ x ∈ l
  | [], s, x => by simp [put]
  | y :: r, s, x => by
    unfold put
    split
    · rw [List.mem_cons, put_mem r s x, List.mem_cons]
      constructor
      · rintro (h | h | h)
        · exact .inr (.inl h)
        · exact .inl h
        · exact .inr (.inr h)
      · rintro (h | h | h)
        · exact .inr (.inl h)
        · exact .inl h
        · exact .inr (.inr h)
    · split
      · rename_i h
        have e : y = s := (beq_iff _ _).1 h
        subst e
        simp
      · simp
theorem put_asc : ∀ (l : List ByteArray) (s : ByteArray), Asc l → Asc (put l s)
  | [], s, _ => by unfold put Asc; simp
  | y :: r, s, h => by
    have h' := List.pairwise_cons.1 h
    unfold put
    split
    · rename_i hl
      refine List.pairwise_cons.2 ⟨fun x hx => ?_, put_asc r s h'.2⟩
      rcases (put_mem r s x).1 hx with rfl | hx
      · exact hl
      · exact h'.1 x hx
    · rename_i hl
      split
      · exact h
      · rename_i hne
        have hs : less s y = true := by
          cases k : less s y with
          | true => rfl
          | false => exact absurd ((beq_iff _ _).2 (less_total (by simpa using hl) k)) hne
        refine List.pairwise_cons.2 ⟨fun x hx => ?_, h⟩
        rcases List.mem_cons.1 hx with rfl | hx
        · exact hs
        · exact less_trans hs (h'.1 x hx)
theorem fold_put (s : List ByteArray) : ∀ l, Asc l → Asc (s.foldl put l) ∧ ∀ x, x ∈ s.foldl put l ↔ x ∈ l ∨ x ∈ s := by
  induction s with
  | nil => intro l h; exact ⟨h, by simp⟩
  | cons y r ih =>
    intro l h
    rw [List.foldl_cons]
    obtain ⟨h1, h2⟩ := ih (put l y) (put_asc l y h)
    refine ⟨h1, fun x => ?_⟩
    rw [h2, put_mem, List.mem_cons]
    constructor
    · rintro ((h | h) | h)
      · exact .inr (.inl h)
      · exact .inl h
      · exact .inr (.inr h)
    · rintro (h | h | h)
      · exact .inl (.inr h)
      · exact .inl (.inl h)
      · exact .inr h
theorem set_asc (s : List ByteArray) : Asc (setOf s) := (fold_put s [] List.Pairwise.nil).1
theorem set_mem (s : List ByteArray) (x : ByteArray) : x ∈ setOf s ↔ x ∈ s := by
  have := (fold_put s [] List.Pairwise.nil).2 x
  simpa [setOf] using this
theorem set_ext {s l : List ByteArray} (h : Asc l) (hm : ∀ x, x ∈ l ↔ x ∈ s) : l = setOf s := asc_ext h (set_asc s) (fun x => (hm x).trans (set_mem s x).symm)
theorem least_asc (cs : List Cl) (s : List ByteArray) : Asc (leastB cs s) := asc_filter (set_asc s) _
theorem least_mem {cs : List Cl} {s : List ByteArray} {x : ByteArray} : x ∈ leastB cs s ↔ x ∈ s ∧ ∀ d ∈ s, d ≠ x → belowB cs d x = false := by
  unfold leastB
  rw [List.mem_filter, set_mem, Bool.not_eq_true', List.any_eq_false]
  refine and_congr_right fun hx => ?_
  constructor
  · intro h d hd hne
    have := h d hd
    cases hb : belowB cs d x with
    | false => rfl
    | true =>
      rw [hb, Bool.and_true] at this
      exact absurd (bne_iff_ne.2 hne) this
  · intro h d hd hb
    rw [Bool.and_eq_true, bne_iff_ne] at hb
    rw [h d hd hb.1] at hb
    exact absurd hb.2 (by decide)
theorem least_ext {cs : List Cl} {s l : List ByteArray} (h : Asc l) (hm : ∀ x, x ∈ l ↔ x ∈ s ∧ ∀ d ∈ s, d ≠ x → belowB cs d x = false) : l = leastB cs s :=
  asc_ext h (least_asc cs s) (fun x => (hm x).trans least_mem.symm)
theorem least_congr {cs : List Cl} {s t : List ByteArray} (h : ∀ x, x ∈ s ↔ x ∈ t) : leastB cs s = leastB cs t :=
  least_ext (least_asc cs s) (fun x => by rw [least_mem, h]; exact and_congr_right fun _ => ⟨fun k d hd => k d ((h d).2 hd), fun k d hd => k d ((h d).1 hd)⟩)

/-! ### right classes: an order -/
section
variable {cs : List Cl} (hR : Right [] cs)
include hR
theorem names_inj {i j : Nat} (hi : i < cs.length) (hj : j < cs.length) (h : (cs[i]'hi).1 = (cs[j]'hj).1) : i = j := by
  have h1 := hR.nodup
  have e : ((cs.map (·.1))[i]'(by simpa using hi)) = ((cs.map (·.1))[j]'(by simpa using hj)) := by simpa using h
  exact (List.getElem_inj h1).1 e
theorem find_at {i : Nat} (hi : i < cs.length) : find cs (cs[i]'hi).1 = some (cs[i]'hi) := by
  unfold find
  cases h : cs.find? (fun c => c.1 == (cs[i]'hi).1) with
  | none =>
    have := List.find?_eq_none.1 h (cs[i]'hi) (List.getElem_mem hi)
    exact absurd ((beq_iff _ _).2 rfl) this
  | some d =>
    have h1 := List.find?_some h
    obtain ⟨j, hj, rfl⟩ := List.mem_iff_getElem.1 (List.mem_of_find?_eq_some h)
    have := names_inj hR hj hi ((beq_iff _ _).1 h1)
    subst this
    rfl
theorem sups_at {i : Nat} (hi : i < cs.length) : sups cs (cs[i]'hi).1 = (cs[i]'hi).2 := by
  unfold sups
  rw [find_at hR hi]
/-- a superclass stands ahead -/
theorem reach_le {a b : ByteArray} (h : Reach cs a b) : ∀ i (hi : i < cs.length), (cs[i]'hi).1 = a → ∃ j, ∃ hj : j < cs.length, (cs[j]'hj).1 = b ∧ j ≤ i ∧ (j = i → a = b) := by
  induction h with
  | refl => intro i hi e; exact ⟨i, hi, e, Nat.le_refl _, fun _ => rfl⟩
  | step h hs ih =>
    intro i hi e
    obtain ⟨j, hj, e2, hle, _⟩ := ih i hi e
    rw [← e2, sups_at hR hj] at hs
    rcases hR.sup j hj _ hs with h1 | ⟨q, hq, hlt, e3⟩
    · exact absurd h1 List.not_mem_nil
    · exact ⟨q, hq, e3, by omega, fun e => by omega⟩
theorem below_antisymm {a b : ByteArray} (ha : has cs a = true) (h : belowB cs a b = true) (k : belowB cs b a = true) : a = b := by
  unfold has at ha
  rw [List.any_eq_true] at ha
  obtain ⟨c, hc, e⟩ := ha
  obtain ⟨i, hi, rfl⟩ := List.mem_iff_getElem.1 hc
  have e := (beq_iff _ _).1 e
  obtain ⟨j, hj, e2, hle, heq⟩ := reach_le hR (below_iff.1 h) i hi e
  obtain ⟨q, hq, e3, hle2, _⟩ := reach_le hR (below_iff.1 k) j hj e2
  have : q = i := names_inj hR hq hi (e3.trans e.symm)
  exact heq (by omega)
end
theorem classes_right {cs : List Cl} (h : classesE cs = 0) : Right [] cs := by
  unfold classesE at h
  split at h
  · exact absurd h (by decide)
  · exact clsE_right cs [] h
end Go.Proofs.Ythfomoigaoffgaa.O
