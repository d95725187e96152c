/- Plain laws of sorts: the order of sorts, the least sort, what has both. -/
import Derived.Test.YthfomoigaoffgaaO2
namespace Go.Proofs.Ythfomoigaoffgaa.O
set_option linter.unusedSimpArgs false
set_option linter.unusedVariables false
open Go

theorem within_iff {cs : List Cl} {a b : List ByteArray} : withinB cs a b = true ↔ ∀ c ∈ b, ∃ d ∈ a, belowB cs d c = true := by
  unfold withinB
  rw [List.all_eq_true]
  exact forall_congr' fun c => forall_congr' fun _ => List.any_eq_true
theorem known_iff {cs : List Cl} {s : List ByteArray} : knownB cs s = true ↔ ∀ c ∈ s, has cs c = true := List.all_eq_true
theorem within_sub {cs : List Cl} {a b : List ByteArray} (h : ∀ x ∈ b, x ∈ a) : withinB cs a b = true := within_iff.2 fun c hc => ⟨c, h c hc, below_refl cs c⟩
theorem within_trans {cs : List Cl} {a b c : List ByteArray} (h : withinB cs a b = true) (k : withinB cs b c = true) : withinB cs a c = true := within_iff.2 fun x hx => by
  obtain ⟨y, hy, h1⟩ := within_iff.1 k x hx
  obtain ⟨z, hz, h2⟩ := within_iff.1 h y hy
  exact ⟨z, hz, below_trans h2 h1⟩
theorem has_at {cs : List Cl} {a : ByteArray} (h : has cs a = true) : ∃ i, ∃ hi : i < cs.length, (cs[i]'hi).1 = a := by
  unfold has at h
  rw [List.any_eq_true] at h
  obtain ⟨c, hc, e⟩ := h
  obtain ⟨i, hi, rfl⟩ := List.mem_iff_getElem.1 hc
  exact ⟨i, hi, (beq_iff _ _).1 e⟩
theorem least_sub {cs : List Cl} {s : List ByteArray} {x : ByteArray} (h : x ∈ leastB cs s) : x ∈ s := (least_mem.1 h).1
theorem least_known {cs : List Cl} {s : List ByteArray} (h : knownB cs s = true) : knownB cs (leastB cs s) = true := known_iff.2 fun x hx => known_iff.1 h x (least_sub hx)
theorem known_app {cs : List Cl} {a b : List ByteArray} : knownB cs (a ++ b) = (knownB cs a && knownB cs b) := List.all_append
theorem least_len {cs : List Cl} {s : List ByteArray} : (leastB cs s).length ≤ s.length := nodup_len (asc_nodup (least_asc cs s)) (fun x hx => least_sub hx)

theorem within_least {cs : List Cl} {a b s : List ByteArray} (h : ∀ x ∈ s, x ∈ a ∨ x ∈ b) {c : List ByteArray} (ha : withinB cs c a = true) (hb : withinB cs c b = true) : withinB cs c (leastB cs s) = true := within_iff.2 fun x hx => by
  rcases h x (least_sub hx) with h1 | h1
  · exact within_iff.1 ha x h1
  · exact within_iff.1 hb x h1
theorem least_idem {cs : List Cl} {s : List ByteArray} : leastB cs (leastB cs s) = leastB cs s :=
  (least_ext (least_asc cs s) (fun x => ⟨fun h => ⟨h, fun d hd hne => (least_mem.1 h).2 d (least_sub hd) hne⟩, fun h => h.1⟩)).symm
section
variable {cs : List Cl} (hR : Right [] cs)
include hR
/-- below each class of a sort there is a least one -/
theorem exists_least {s : List ByteArray} (hk : knownB cs s = true) {c : ByteArray} (hc : c ∈ s) : ∃ d ∈ leastB cs s, belowB cs d c = true := by
  have key : ∀ (n : Nat) (d : ByteArray) (i : Nat) (hi : i < cs.length), (cs[i]'hi).1 = d → d ∈ s → belowB cs d c = true → cs.length - i ≤ n → ∃ e ∈ leastB cs s, belowB cs e c = true := by
    intro n
    induction n with
    | zero => intro d i hi _ _ _ hn; omega
    | succ n ih =>
      intro d i hi e hd hb hn
      by_cases h : ∃ f ∈ s, f ≠ d ∧ belowB cs f d = true
      · obtain ⟨f, hf, hne, hfd⟩ := h
        obtain ⟨j, hj, ej⟩ := has_at (known_iff.1 hk f hf)
        obtain ⟨q, hq, eq, hle, heq⟩ := reach_le hR (below_iff.1 hfd) j hj ej
        have hqi : q = i := names_inj hR hq hi (eq.trans e.symm)
        subst hqi
        have hne2 : q ≠ j := fun h => hne (heq h)
        exact ih f j hj ej hf (below_trans hfd hb) (by omega)
      · refine ⟨d, least_mem.2 ⟨hd, fun f hf hne => ?_⟩, hb⟩
        cases hb2 : belowB cs f d with
        | false => rfl
        | true => exact absurd ⟨f, hf, hne, hb2⟩ h
  obtain ⟨i, hi, e⟩ := has_at (known_iff.1 hk c hc)
  exact key _ c i hi e hc (below_refl cs c) (Nat.le_refl _)
theorem least_within {s t : List ByteArray} (hk : knownB cs s = true) (h : ∀ x ∈ t, x ∈ s) : withinB cs (leastB cs s) t = true := within_iff.2 fun c hc => exists_least hR hk (h c hc)
/-- sorts within each other have one least sort -/
theorem least_same {a b : List ByteArray} (ka : knownB cs a = true) (kb : knownB cs b = true) : (withinB cs a b && withinB cs b a) = decide (leastB cs a = leastB cs b) := by
  rw [Bool.eq_iff_iff, Bool.and_eq_true, decide_eq_true_eq]
  have half : ∀ {a b : List ByteArray}, knownB cs a = true → withinB cs a b = true → withinB cs b a = true → ∀ x ∈ leastB cs a, x ∈ leastB cs b := by
    intro a b ka h1 h2 x hx
    obtain ⟨hxa, hmin⟩ := least_mem.1 hx
    have back : ∀ d ∈ b, belowB cs d x = true → d = x := by
      intro d hd hdx
      obtain ⟨e, he, hed⟩ := within_iff.1 h1 d hd
      have hex := below_trans hed hdx
      have : e = x := Decidable.byContradiction fun hne => by
        rw [hmin e he hne] at hex
        exact absurd hex (by decide)
      subst this
      exact (below_antisymm hR (known_iff.1 ka e hxa) hed hdx).symm
    obtain ⟨d, hd, hdx⟩ := within_iff.1 h2 x hxa
    have := back d hd hdx
    subst this
    refine least_mem.2 ⟨hd, fun f hf hne => ?_⟩
    cases hb : belowB cs f d with
    | false => rfl
    | true => exact absurd (back f hf hb) hne
  constructor
  · rintro ⟨h1, h2⟩
    exact asc_ext (least_asc cs a) (least_asc cs b) (fun x => ⟨half ka h1 h2 x, half kb h2 h1 x⟩)
  · intro h
    have a1 : withinB cs a (leastB cs a) = true := within_sub fun x hx => least_sub hx
    have b1 : withinB cs b (leastB cs b) = true := within_sub fun x hx => least_sub hx
    have a2 := least_within hR ka (fun x (hx : x ∈ a) => hx)
    have b2 := least_within hR kb (fun x (hx : x ∈ b) => hx)
    exact ⟨within_trans a1 (h ▸ b2), within_trans b1 (h ▸ a2)⟩
end

theorem norm_ok {cs : List Cl} {s : List ByteArray} (h : (normB cs s).2 = 0) : classesE cs = 0 ∧ s.length ≤ 20 ∧ knownB cs s = true ∧ normB cs s = (leastB cs s, 0) := by
  unfold normB at *
  split at h
  · rename_i h1; exact absurd h h1
  · rename_i h1
    split at h
    · exact absurd h (by decide)
    · rename_i h2
      split at h
      · rename_i h3
        exact ⟨Decidable.byContradiction h1, by omega, h3, by rw [if_neg h1, if_neg h2, if_pos h3]⟩
      · exact absurd h (by decide)
theorem norm_of {cs : List Cl} {s : List ByteArray} (h1 : classesE cs = 0) (h2 : s.length ≤ 20) (h3 : knownB cs s = true) : normB cs s = (leastB cs s, 0) := by
  unfold normB
  rw [if_neg (fun h => h h1), if_neg (by omega), if_pos h3]
theorem meet_ok {cs : List Cl} {a b : List ByteArray} (h : (meetB cs a b).2 = 0) : (normB cs a).2 = 0 ∧ (normB cs b).2 = 0 ∧ meetB cs a b = (leastB cs (a ++ b), 0) := by
  unfold meetB at *
  split at h
  · rename_i h1; exact absurd h h1
  · rename_i h1
    split at h
    · rename_i h2; exact absurd h h2
    · rename_i h2
      split at h
      · exact absurd h (by decide)
      · rename_i h3
        exact ⟨Decidable.byContradiction h1, Decidable.byContradiction h2, by rw [if_neg h1, if_neg h2, if_neg h3]⟩
/-- the law SortOrder, of the plain functions -/
theorem order_law {cs : List Cl} {a b c : List ByteArray} (ha : (normB cs a).2 = 0) (hb : (normB cs b).2 = 0) (hc : (normB cs c).2 = 0) (hm : (meetB cs a b).2 = 0) :
    lessB cs a a = true ∧ lessB cs (normB cs a).1 a = true ∧ lessB cs a (normB cs a).1 = true ∧ (lessB cs a b = true → lessB cs b c = true → lessB cs a c = true) ∧
    lessB cs (meetB cs a b).1 a = true ∧ lessB cs (meetB cs a b).1 b = true ∧ lessB cs c (meetB cs a b).1 = (lessB cs c a && lessB cs c b) := by
  obtain ⟨h0, la, ka, ea⟩ := norm_ok ha
  obtain ⟨_, lb, kb, eb⟩ := norm_ok hb
  obtain ⟨_, lc, kc, ec⟩ := norm_ok hc
  obtain ⟨_, _, em⟩ := meet_ok hm
  have hR := classes_right h0
  rw [ea, em]
  have kl := least_known ka
  have kab : knownB cs (a ++ b) = true := by rw [known_app, ka, kb]; rfl
  have km := least_known kab
  unfold lessB
  rw [decide_eq_true h0]
  simp only [Bool.true_and, known_app, ka, kb, kc, kl, km]
  refine ⟨within_sub (fun x hx => hx), least_within hR ka (fun x hx => hx), within_sub (fun x hx => least_sub hx), within_trans, least_within hR kab (fun x hx => List.mem_append_left _ hx), least_within hR kab (fun x hx => List.mem_append_right _ hx), ?_⟩
  rw [Bool.eq_iff_iff, Bool.and_eq_true]
  constructor
  · intro h
    exact ⟨within_trans h (least_within hR kab (fun x hx => List.mem_append_left _ hx)), within_trans h (least_within hR kab (fun x hx => List.mem_append_right _ hx))⟩
  · rintro ⟨h1, h2⟩
    exact within_least (fun x hx => List.mem_append.1 hx) h1 h2
/-- the law SortLeast, of the plain functions -/
theorem least_law {cs : List Cl} {a b : List ByteArray} (ha : (normB cs a).2 = 0) (hb : (normB cs b).2 = 0) :
    normB cs a.reverse = ((normB cs a).1, 0) ∧ normB cs (normB cs a).1 = ((normB cs a).1, 0) ∧ (lessB cs a b && lessB cs b a) = decide ((normB cs a).1 = (normB cs b).1) := by
  obtain ⟨h0, la, ka, ea⟩ := norm_ok ha
  obtain ⟨_, lb, kb, eb⟩ := norm_ok hb
  have hR := classes_right h0
  rw [ea, eb]
  refine ⟨?_, ?_, ?_⟩
  · rw [norm_of h0 (by rw [List.length_reverse]; exact la) (known_iff.2 fun x hx => known_iff.1 ka x (List.mem_reverse.1 hx))]
    rw [least_congr (fun x => List.mem_reverse)]
  · rw [norm_of h0 (Nat.le_trans least_len la) (least_known ka), least_idem]
  · unfold lessB
    rw [decide_eq_true h0]
    simp only [Bool.true_and, known_app, ka, kb]
    exact least_same hR ka kb
end Go.Proofs.Ythfomoigaoffgaa.O
