/- Walks of sort.Needed. -/
import Derived.Test.YthfomoigaoffgaaNd1
import Derived.Test.YthfomoigaoffgaaSo11
namespace Go.Proofs.Ythfomoigaoffgaa.Nd
open Go Go.RowKit Go.Shelf Go.Proofs.Ythfomoigaoffgaa.K Go.Proofs.Ythfomoigaoffgaa.G Go.Proofs.Ythfomoigaoffgaa.Ix Go.Proofs.Ythfomoigaoffgaa.O Go.Proofs.Ythfomoigaoffgaa.So
set_option linter.unusedSimpArgs false
set_option linter.unusedVariables false

/-- append to an own row: its block is the one it had, or new -/
theorem append_row {base : Nat} {S : Nat → Prop} {w : World} {v : Value} {xs ys : List ByteArray} {A : Option Addr} {c : Nat} (h : Mine str base NoB w v xs) (hC : C str S w A ys) (hl : xs.length + ys.length ≤ 1000000) (hbase : base ≤ w.heap.size) :
    ∃ v' w', (Builtin.append_ #[27, 27] 27 #[v, .slice A ys.length c]).run Try.prog w = .ok v' w' ∧ Mine str base NoB w' v' (xs ++ ys) ∧ w.grownBy w' v.ownBlock ∧ ∀ k, v'.ownBlock = some k → v.ownBlock = some k ∨ w.heap.size ≤ k := by
  obtain ⟨i0, hi0, hz0, hz1, hz2⟩ := info_parts infoStr
  by_cases hy : ys = []
  · subst hy
    obtain ⟨A1, cap, rfl, hle⟩ := h.form
    exact ⟨_, w, append_none w _ _ _ i0 Try.underlying27 hi0 A1 A _ cap c hle, by rw [List.append_nil]; exact h, World.grownBy.refl w _, fun k e => .inl e⟩
  · obtain ⟨b, o, rfl, _, _, _⟩ := hC.2 hy
    have hrow : ∀ j x, ys[j]? = some x → w.cell? ⟨b, o + j, none⟩ = some (.string x) := fun j x hj => by
      obtain ⟨hj1, e⟩ := List.getElem?_eq_some_iff.1 hj
      obtain ⟨b', o', e', _, _, hc⟩ := str_at hC j hj1
      simp only [Option.some.injEq, Addr.mk.injEq, and_true] at e'
      obtain ⟨rfl, rfl⟩ := e'
      rw [hc, e]
    obtain ⟨v', w', hrun, ho, hg, hb⟩ := h.append (P := Try.prog) (t := 27) (ty := 27) (bytes := 16) (c2 := c) Try.underlying27 hi0 hz0 hz1 hz2 rfl (by decide) rfl hy (scalar_cells hrow) (by unfold maxLen; omega) (by omega) hbase
    refine ⟨v', w', hrun, ho, hg, fun k e => ?_⟩
    rcases hb with h1 | h1
    · rw [h1] at e; exact .inl e
    · rw [h1] at e; cases e; exact .inr (Nat.le_refl _)
theorem Nest.read {base g : Nat} {t : TypeId} {w : World} {vs : List Value} {xs : List (List ByteArray)} (h : Nest base g t w vs xs) (hl : xs.length ≤ maxLen) : C (slice str) (fun _ => True) w (some ⟨g, 0, none⟩) xs := by
  refine ⟨hl, fun _ => ⟨g, 0, rfl, trivial, h.lt, fun j x hj => ?_⟩⟩
  have hjl := (List.getElem?_eq_some_iff.1 hj).1
  obtain ⟨v, hv, hc, _, hm⟩ := h.at_ j hjl
  rw [(List.getElem?_eq_some_iff.1 hj).2] at hm
  obtain ⟨A, c, e, hle⟩ := hm.form
  subst e
  refine ⟨[.slice A x.length c], ⟨A, c, rfl, hle, hm.read.2.2.mono (fun _ _ => trivial)⟩, fun i u hu => ?_⟩
  cases i with
  | zero =>
    simp only [List.getElem?_cons_zero, Option.some.injEq] at hu
    subst hu
    have e1 : (slice str).sz = 1 := rfl
    rw [e1, Nat.mul_one, Nat.zero_add, Nat.add_zero]
    exact hc
  | succ i => simp at hu

/-- what is asked of a theory that has been found right -/
structure NeedOk (T : Thy) : Prop where
  few : (allSups T.cls).length ≤ 100000000
  tys : ∀ d ∈ T.tys, 0 ≤ d.2 ∧ d.2 ≤ 10
  len : ∀ a ∈ T.ars, ∀ n, args? T.tys a.1 = some n → (a.2.2.length : Int) = n
  sorts : ∀ a ∈ T.ars, ∀ x ∈ a.2.2, x.length ≤ 20 ∧ ∀ y ∈ x, y.size ≤ maxLen
/-- what Needed returns -/
def NdEnd (w : World) (R : Option (List (List ByteArray))) (e : Ending) (w' : World) : Prop :=
  (match R with
    | none => e = .returned (.tuple #[.slice none 0 0, .bool false])
    | some l => ∃ g, e = .returned (.tuple #[.slice (some ⟨g, 0, none⟩) l.length l.length, .bool true]) ∧ w.heap.size ≤ g ∧ C (slice str) (fun _ => True) w' (some ⟨g, 0, none⟩) l) ∧ Below w.heap.size w w'
/-- the rows gathered are small -/
def Small (k : Nat) (xs : List (List ByteArray)) : Prop := ∀ x ∈ xs, x.length ≤ k * 20 ∧ ∀ y ∈ x, y.size ≤ maxLen
end Go.Proofs.Ythfomoigaoffgaa.Nd
