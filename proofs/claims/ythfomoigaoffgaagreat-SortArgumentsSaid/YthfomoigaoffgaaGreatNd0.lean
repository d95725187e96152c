/- A row of rows, all of them own and apart: what append to one of them leaves of the others.  No program's function is in sight. -/
import Derived.Test.YthfomoigaoffgaaGreatSo8
import Derived.Test.YthfomoigaoffgaaGreatRf3
namespace Go.Proofs.YthfomoigaoffgaaGreat.Nd
open Go Go.RowKit Go.Proofs.YthfomoigaoffgaaGreat.K Go.Proofs.YthfomoigaoffgaaGreat.G Go.Proofs.YthfomoigaoffgaaGreat.Ix Go.Proofs.YthfomoigaoffgaaGreat.O
set_option linter.unusedSimpArgs false
set_option linter.unusedVariables false

abbrev NoB : Nat → Prop := fun _ => False
/-- block g holds the rows vs, which read xs; each lies in a block of its own, from base on -/
structure Nest (base g : Nat) (t : TypeId) (w : World) (vs : List Value) (xs : List (List ByteArray)) : Prop where
  blk : w.heap[g]? = some (.cells vs.toArray t (0, 0))
  len : vs.length = xs.length
  own : ∀ (j : Nat) (v : Value) (x : List ByteArray), vs[j]? = some v → xs[j]? = some x → Mine str base NoB w v x
  ne : ∀ (j : Nat) (v : Value), vs[j]? = some v → v.ownBlock ≠ some g
  dis : ∀ (i j : Nat) (v u : Value) (k : Nat), i ≠ j → vs[i]? = some v → vs[j]? = some u → v.ownBlock = some k → u.ownBlock ≠ some k
theorem Nest.lt {base g : Nat} {t : TypeId} {w : World} {vs : List Value} {xs : List (List ByteArray)} (h : Nest base g t w vs xs) : g < w.heap.size := (Array.getElem?_eq_some_iff.1 h.blk).1
theorem Nest.at_ {base g : Nat} {t : TypeId} {w : World} {vs : List Value} {xs : List (List ByteArray)} (h : Nest base g t w vs xs) (j : Nat) (hj : j < xs.length) : ∃ v, vs[j]? = some v ∧ w.cell? ⟨g, j, none⟩ = some v ∧ w.frozen? ⟨g, j, none⟩ = false ∧ Mine str base NoB w v (xs[j]'hj) := by
  have hv : j < vs.length := by rw [h.len]; exact hj
  refine ⟨vs[j]'hv, List.getElem?_eq_getElem hv, ?_, ?_, h.own j _ _ (List.getElem?_eq_getElem hv) (List.getElem?_eq_getElem hj)⟩
  · have := h.blk
    simp [World.cell?, this, hv]
  · have := h.blk
    simp [World.frozen?, this]
theorem Nest.below {base g : Nat} {t : TypeId} {w w' : World} {vs : List Value} {xs : List (List ByteArray)} (h : Nest base g t w vs xs) (hb : Below w.heap.size w w') : Nest base g t w' vs xs :=
  ⟨(hb.block _ h.lt).trans h.blk, h.len, fun j v x h1 h2 => (h.own j v x h1 h2).below hb, h.ne, h.dis⟩
/-- a row is put in place of another: it has been made out of that one's block, or anew -/
theorem Nest.put {base g : Nat} {t : TypeId} {w w' : World} {vs : List Value} {xs : List (List ByteArray)} (h : Nest base g t w vs xs) {j : Nat} {v v' : Value} {z : List ByteArray} (hv : vs[j]? = some v) (hc : Chg (fun k => v.ownBlock = some k) w w')
    (hm : Mine str base NoB w' v' z) (ho : ∀ k, v'.ownBlock = some k → v.ownBlock = some k ∨ w.heap.size ≤ k) (hgl : base ≤ g) : Nest base g t (w'.setCell ⟨g, j, none⟩ v') (vs.set j v') (xs.set j z) ∧ Chg (fun k => k = g ∨ v.ownBlock = some k) w (w'.setCell ⟨g, j, none⟩ v') := by
  have hjl : j < vs.length := (List.getElem?_eq_some_iff.1 hv).1
  have hb1 : w'.heap[g]? = some (.cells vs.toArray t (0, 0)) := hc.obj h.blk (h.ne j v hv)
  have hcs : Chg (fun k => k = g) w' (w'.setCell ⟨g, j, none⟩ v') := Chg.setCell (T := fun k => k = g) rfl _
  have hlt := h.lt
  have hne' : v'.ownBlock ≠ some g := fun e => by
    rcases ho g e with h1 | h1
    · exact h.ne j v hv h1
    · omega
  refine ⟨⟨?_, by rw [List.length_set, List.length_set, h.len], ?_, ?_, ?_⟩, (hc.mono (fun k e => .inr e)).trans (hcs.mono (fun k e => .inl e))⟩
  · have := Rf.put_cell hb1 j v'
    rw [this, List.setIfInBounds_toArray]
  · intro i u x h1 h2
    rw [List.getElem?_set] at h1 h2
    by_cases hij : j = i
    · subst hij
      rw [if_pos rfl, if_pos hjl] at h1
      rw [if_pos rfl, if_pos (by rw [← h.len]; exact hjl)] at h2
      cases h1; cases h2
      exact hm.chg hcs (fun k hk _ => hk.elim) (fun k e hk => by subst hk; exact hne' e)
    · rw [if_neg hij] at h1 h2
      refine ((h.own i u x h1 h2).chg hc (fun k hk _ => hk.elim) (fun k e hk => h.dis j i v u k hij hv h1 hk e)).chg hcs (fun k hk _ => hk.elim) (fun k e hk => by subst hk; exact h.ne i u h1 e)
  · intro i u h1
    rw [List.getElem?_set] at h1
    by_cases hij : j = i
    · subst hij
      rw [if_pos rfl, if_pos hjl] at h1
      cases h1
      exact hne'
    · rw [if_neg hij] at h1
      exact h.ne i u h1
  · intro i q u u2 k hiq h1 h2 e1 e2
    rw [List.getElem?_set] at h1 h2
    by_cases hij : j = i
    · subst hij
      rw [if_pos rfl, if_pos hjl] at h1
      rw [if_neg hiq] at h2
      cases h1
      rcases ho k e1 with e | e
      · exact h.dis j q v u2 k hiq hv h2 e e2
      · obtain ⟨x, hx⟩ : ∃ x, xs[q]? = some x := ⟨xs[q]'(by rw [← h.len]; exact (List.getElem?_eq_some_iff.1 h2).1), List.getElem?_eq_getElem _⟩
        have := ((h.own q u2 x h2 hx).base_le e2).2
        omega
    · rw [if_neg hij] at h1
      by_cases hjq : j = q
      · subst hjq
        rw [if_pos rfl, if_pos hjl] at h2
        cases h2
        rcases ho k e2 with e | e
        · exact h.dis i j u v k hiq h1 hv e1 e
        · obtain ⟨x, hx⟩ : ∃ x, xs[i]? = some x := ⟨xs[i]'(by rw [← h.len]; exact (List.getElem?_eq_some_iff.1 h1).1), List.getElem?_eq_getElem _⟩
          have := ((h.own i u x h1 hx).base_le e1).2
          omega
      · rw [if_neg hjq] at h2
        exact h.dis i q u u2 k hiq h1 h2 e1 e2
/-- a row of empty rows, made -/
theorem Nest.start {base g n : Nat} {t : TypeId} {w : World} (h : w.heap[g]? = some (.cells (List.replicate n (Value.slice none 0 0)).toArray t (0, 0))) : Nest base g t w (List.replicate n (.slice none 0 0)) (List.replicate n []) := by
  refine ⟨h, by simp, fun j v x h1 h2 => ?_, fun j v h1 => ?_, fun i j v u k _ h1 _ e => ?_⟩
  · rw [List.getElem?_replicate] at h1 h2
    by_cases hj : j < n
    · rw [if_pos hj] at h1 h2
      cases h1; cases h2
      exact Mine.nil ..
    · rw [if_neg hj] at h1
      cases h1
  · rw [List.getElem?_replicate] at h1
    split at h1 <;> simp at h1
    subst h1
    simp [Value.ownBlock]
  · rw [List.getElem?_replicate] at h1
    split at h1 <;> simp at h1
    subst h1
    simp [Value.ownBlock] at e
end Go.Proofs.YthfomoigaoffgaaGreat.Nd
