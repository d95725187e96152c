/- Texts exchanged: signs and the named symbols for them.  It names no program. -/
import Derived.WalkKit
namespace Go.Proofs.Ytmkfeanggmjhmaa.X
set_option linter.unusedSimpArgs false
set_option linter.unusedVariables false
open Go

abbrev Pairs := List (List UInt8 × List UInt8)
def signPairs : Pairs :=
  [([61, 61, 62], [92, 60, 76, 111, 110, 103, 114, 105, 103, 104, 116, 97, 114, 114, 111, 119, 62]), ([45, 45, 62], [92, 60, 108, 111, 110, 103, 114, 105, 103, 104, 116, 97, 114, 114, 111, 119, 62]),
   ([61, 61], [92, 60, 101, 113, 117, 105, 118, 62]), ([61, 62], [92, 60, 82, 105, 103, 104, 116, 97, 114, 114, 111, 119, 62]), ([33, 33], [92, 60, 65, 110, 100, 62]),
   ([37], [92, 60, 108, 97, 109, 98, 100, 97, 62]), ([38], [92, 60, 97, 110, 100, 62]), ([124], [92, 60, 111, 114, 62]), ([126], [92, 60, 110, 111, 116, 62]), ([33], [92, 60, 102, 111, 114, 97, 108, 108, 62])]
def turned (ps : Pairs) : Pairs := ps.map (fun p => (p.2, p.1))

/-- the first pair whose text begins a text -/
def hit (ps : Pairs) (s : List UInt8) : Option (List UInt8 × List UInt8) := ps.find? (fun p => p.1.isPrefixOf s)
def exF (ps : Pairs) : Nat → List UInt8 → List UInt8
  | 0, _ => []
  | _ + 1, [] => []
  | d + 1, c :: r => match hit ps (c :: r) with
    | some p => p.2 ++ exF ps d ((c :: r).drop p.1.length)
    | none => c :: exF ps d r
/-- a text in which the first ones of pairs are exchanged -/
def exE (ps : Pairs) (s : List UInt8) : List UInt8 := exF ps s.length s

def Ok (ps : Pairs) : Prop := ∀ p ∈ ps, 0 < p.1.length
theorem hit_mem {ps : Pairs} {s : List UInt8} {p : List UInt8 × List UInt8} (h : hit ps s = some p) : p ∈ ps ∧ ∃ r, s = p.1 ++ r := by
  unfold hit at h
  refine ⟨List.mem_of_find?_eq_some h, ?_⟩
  have := List.find?_some h
  obtain ⟨r, hr⟩ := List.isPrefixOf_iff_prefix.1 this
  exact ⟨r, hr.symm⟩
theorem exF_more {ps : Pairs} (ok : Ok ps) : ∀ d s, s.length ≤ d → exF ps d s = exF ps s.length s := by
  intro d
  induction d using Nat.strongRecOn with
  | _ d ih =>
    intro s h
    cases s with
    | nil => cases d <;> rfl
    | cons c r =>
      obtain ⟨d', rfl⟩ : ∃ d', d = d' + 1 := ⟨d - 1, by simp at h; omega⟩
      simp only [List.length_cons] at h
      show exF ps (d' + 1) (c :: r) = exF ps (r.length + 1) (c :: r)
      unfold exF
      cases hh : hit ps (c :: r) with
      | none =>
        simp only
        rw [ih d' (by omega) r (by omega)]
      | some p =>
        simp only
        have hl := ok p (hit_mem hh).1
        have hd : ((c :: r).drop p.1.length).length ≤ r.length := by simp; omega
        rw [ih d' (by omega) _ (by omega)]
        by_cases he : d' = r.length
        · rw [← he, ih d' (by omega) _ (by omega)]
        · rw [ih r.length (by omega) _ hd]
theorem exE_nil (ps : Pairs) : exE ps [] = [] := rfl
theorem exE_hit {ps : Pairs} (ok : Ok ps) {s : List UInt8} {p : List UInt8 × List UInt8} (hs : s ≠ []) (h : hit ps s = some p) : exE ps s = p.2 ++ exE ps (s.drop p.1.length) := by
  cases s with
  | nil => exact absurd rfl hs
  | cons c r =>
    have hl := ok p (hit_mem h).1
    have e : exE ps (c :: r) = exF ps (r.length + 1) (c :: r) := rfl
    rw [e, exF, h]
    simp only
    rw [exF_more ok r.length _ (by simp; omega)]
    rfl
theorem exE_miss {ps : Pairs} {c : UInt8} {r : List UInt8} (h : hit ps (c :: r) = none) : exE ps (c :: r) = c :: exE ps r := by
  have e : exE ps (c :: r) = exF ps (r.length + 1) (c :: r) := rfl
  rw [e, exF, h]
  rfl

theorem okSigns : Ok signPairs := by unfold Ok; decide
theorem okTurned : Ok (turned signPairs) := by unfold Ok; decide

/-- a byte that begins no sign -/
def plainB (c : UInt8) : Bool := signPairs.all (fun p => p.1.head? != some c)
theorem hit_plain {c : UInt8} (hc : plainB c = true) (r : List UInt8) : hit signPairs (c :: r) = none := by
  unfold hit
  rw [List.find?_eq_none]
  intro p hp
  unfold plainB at hc
  have h := List.all_eq_true.1 hc p hp
  obtain ⟨a, b⟩ := p
  cases a with
  | nil => exact absurd (okSigns _ hp) (by simp)
  | cons x t =>
    simp only [List.head?_cons, bne_iff_ne, ne_eq, Option.some.injEq] at h
    simp [List.isPrefixOf, h]
theorem ex_plain {c : UInt8} (hc : plainB c = true) (r : List UInt8) : exE signPairs (c :: r) = c :: exE signPairs r := exE_miss (hit_plain hc r)
theorem ex_plains : ∀ (u : List UInt8) (r : List UInt8), (∀ c ∈ u, plainB c = true) → exE signPairs (u ++ r) = u ++ exE signPairs r := by
  intro u
  induction u with
  | nil => intro r _; rfl
  | cons c t ih =>
    intro r h
    rw [List.cons_append, ex_plain (h c List.mem_cons_self), ih r (fun x hx => h x (List.mem_cons_of_mem _ hx))]
    rfl
/-- all symbols are of bytes that begin no sign -/
theorem symbols_plain : ∀ p ∈ signPairs, ∀ c ∈ p.2, plainB c = true := by decide
theorem symbols_head : ∀ p ∈ signPairs, p.2.head? = some 92 := by decide
theorem symbols_tail : ∀ p ∈ signPairs, ∀ c ∈ p.2.tail, plainB c = true ∧ c ≠ 92 := by decide
theorem signs_bytes : ∀ p ∈ signPairs, ∀ c ∈ p.1, c ≠ 92 := by decide

/-- the first symbol at a text that begins with one is that one -/
theorem hit_symbol : ∀ p ∈ signPairs, ∀ q ∈ signPairs, p.2.isPrefixOf q.2 = true → p = q := by decide
theorem hit_turned (p : List UInt8 × List UInt8) (hp : p ∈ signPairs) (r : List UInt8) : hit (turned signPairs) (p.2 ++ r) = some (p.2, p.1) := by
  have hm : (p.2, p.1) ∈ turned signPairs := List.mem_map.2 ⟨p, hp, rfl⟩
  cases h : hit (turned signPairs) (p.2 ++ r) with
  | none =>
    unfold hit at h
    have := List.find?_eq_none.1 h _ hm
    exact absurd (List.isPrefixOf_iff_prefix.2 (List.prefix_append _ _)) this
  | some q =>
    obtain ⟨hq, r', hr⟩ := hit_mem h
    obtain ⟨q', hq', rfl⟩ := List.mem_map.1 hq
    simp only at hr ⊢
    have hpre : q'.2 <+: p.2 ++ r := ⟨r', hr.symm⟩
    have hpp : p.2 <+: p.2 ++ r := List.prefix_append _ _
    rcases Nat.le_total q'.2.length p.2.length with hl | hl
    · have := hit_symbol q' hq' p hp (List.isPrefixOf_iff_prefix.2 (List.prefix_of_prefix_length_le hpre hpp hl))
      rw [this]
    · have := hit_symbol p hp q' hq' (List.isPrefixOf_iff_prefix.2 (List.prefix_of_prefix_length_le hpp hpre hl))
      rw [this]
/-- a byte that is no backslash begins no symbol -/
theorem hit_turned_none {c : UInt8} (hc : c ≠ 92) (r : List UInt8) : hit (turned signPairs) (c :: r) = none := by
  cases h : hit (turned signPairs) (c :: r) with
  | none => rfl
  | some q =>
    obtain ⟨hq, r', hr⟩ := hit_mem h
    obtain ⟨q', hq', rfl⟩ := List.mem_map.1 hq
    simp only at hr
    have hh := symbols_head q' hq'
    cases hs : q'.2 with
    | nil => rw [hs] at hh; cases hh
    | cons x t =>
      rw [hs] at hh hr
      simp only [List.head?_cons, Option.some.injEq] at hh
      rw [List.cons_append] at hr
      injection hr with h1 h2
      exact absurd (h1.trans hh) hc
theorem ex_turned_none {c : UInt8} (hc : c ≠ 92) (r : List UInt8) : exE (turned signPairs) (c :: r) = c :: exE (turned signPairs) r := exE_miss (hit_turned_none hc r)
theorem ex_turned_nones : ∀ (u r : List UInt8), (∀ c ∈ u, c ≠ 92) → exE (turned signPairs) (u ++ r) = u ++ exE (turned signPairs) r := by
  intro u
  induction u with
  | nil => intro r _; rfl
  | cons c t ih =>
    intro r h
    rw [List.cons_append, ex_turned_none (h c List.mem_cons_self), ih r (fun x hx => h x (List.mem_cons_of_mem _ hx))]
    rfl

/-- what Symbols begins with, of bytes that begin no sign and are no backslash, the text begins with -/
theorem ex_prefix : ∀ (u s : List UInt8), (∀ c ∈ u, plainB c = true ∧ c ≠ 92) → u <+: exE signPairs s → u <+: s := by
  intro u
  induction u with
  | nil => intro s _ _; exact List.nil_prefix
  | cons c t ih =>
    intro s hu h
    cases s with
    | nil => rw [exE_nil] at h; exact absurd (List.prefix_nil.1 h) (by simp)
    | cons x r =>
      cases hh : hit signPairs (x :: r) with
      | some p =>
        rw [exE_hit okSigns (by simp) hh] at h
        have hp := (hit_mem hh).1
        have hd := symbols_head p hp
        cases hs : p.2 with
        | nil => rw [hs] at hd; cases hd
        | cons y z =>
          rw [hs] at hd h
          simp only [List.head?_cons, Option.some.injEq] at hd
          rw [List.cons_append] at h
          have := (List.cons_prefix_cons.1 h).1
          exact absurd (this.trans hd) (hu c List.mem_cons_self).2
      | none =>
        rw [exE_miss hh] at h
        obtain ⟨h1, h2⟩ := List.cons_prefix_cons.1 h
        rw [h1]
        exact List.cons_prefix_cons.2 ⟨rfl, ih r (fun x hx => hu x (List.mem_cons_of_mem _ hx)) h2⟩

/-- Plain of Symbols is Plain -/
theorem plain_symbols : ∀ (d : Nat) (s : List UInt8), s.length ≤ d → exE (turned signPairs) (exE signPairs s) = exE (turned signPairs) s := by
  intro d
  induction d with
  | zero =>
    intro s h
    obtain rfl : s = [] := List.eq_nil_of_length_eq_zero (by omega)
    rfl
  | succ d ih =>
    intro s h
    cases s with
    | nil => rfl
    | cons c r =>
      simp only [List.length_cons] at h
      cases hh : hit signPairs (c :: r) with
      | some p =>
        obtain ⟨hp, t, ht⟩ := hit_mem hh
        have hl := okSigns p hp
        have hdrop : (c :: r).drop p.1.length = t := by rw [ht]; simp
        have htl : t.length ≤ d := by
          have := congrArg List.length ht
          simp at this
          omega
        rw [exE_hit okSigns (by simp) hh, hdrop]
        have hne : p.2 ++ exE signPairs t ≠ [] := by
          have := symbols_head p hp
          intro e
          have e2 : p.2 = [] := (List.append_eq_nil_iff.1 e).1
          rw [e2] at this
          cases this
        rw [exE_hit okTurned hne (hit_turned p hp _)]
        simp only [List.drop_left]
        rw [ih t htl, ht, ex_turned_nones p.1 t (signs_bytes p hp)]
      | none =>
        rw [exE_miss hh]
        by_cases hc : c = 92
        · cases h2 : hit (turned signPairs) (c :: r) with
          | some q =>
            obtain ⟨hq, t, ht⟩ := hit_mem h2
            obtain ⟨p, hp, rfl⟩ := List.mem_map.1 hq
            simp only at ht
            have hl := okTurned _ hq
            simp only at hl
            have htl : t.length ≤ d := by
              have := congrArg List.length ht
              simp at this
              omega
            have e1 : c :: exE signPairs r = exE signPairs (c :: r) := (exE_miss hh).symm
            have hne : ∀ x : List UInt8, p.2 ++ x ≠ [] := by
              intro x e
              have e2 : p.2 = [] := (List.append_eq_nil_iff.1 e).1
              rw [e2] at hl
              simp at hl
            rw [e1, ht, ex_plains p.2 t (symbols_plain p hp), exE_hit okTurned (hne _) (hit_turned p hp _), exE_hit okTurned (hne _) (hit_turned p hp _)]
            simp only [List.drop_left]
            rw [ih t htl]
          | none =>
            have h3 : hit (turned signPairs) (c :: exE signPairs r) = none := by
              cases h3 : hit (turned signPairs) (c :: exE signPairs r) with
              | none => rfl
              | some q =>
                obtain ⟨hq, t, ht⟩ := hit_mem h3
                obtain ⟨p, hp, rfl⟩ := List.mem_map.1 hq
                simp only at ht
                have hd := symbols_head p hp
                cases hs : p.2 with
                | nil => rw [hs] at hd; cases hd
                | cons y z =>
                  rw [hs, List.cons_append] at ht
                  injection ht with a1 a2
                  have htl := symbols_tail p hp
                  rw [hs] at htl
                  simp only [List.tail_cons] at htl
                  obtain ⟨v, hv⟩ := ex_prefix z r htl ⟨t, a2.symm⟩
                  have : hit (turned signPairs) (c :: r) = some (p.2, p.1) := by
                    rw [a1, ← hv, ← List.cons_append, ← hs]
                    exact hit_turned p hp v
                  rw [h2] at this
                  cases this
            rw [exE_miss h3, exE_miss h2, ih r (by omega)]
        · rw [ex_turned_none hc, ex_turned_none hc, ih r (by omega)]
end Go.Proofs.Ytmkfeanggmjhmaa.X
