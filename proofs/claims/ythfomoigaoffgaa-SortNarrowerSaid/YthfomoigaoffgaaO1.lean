/- Plain model of classes: the order of names; a class with all above it; sorts.  No program in sight. -/
import GoSem.Op.String
import Derived.Lib.Strings
namespace Go.Proofs.Ythfomoigaoffgaa.O
set_option linter.unusedSimpArgs false
set_option linter.unusedVariables false
open Go

/-! ### names and their order -/
theorem beq_iff (a b : ByteArray) : (a == b) = true ↔ a = b := by
  cases a with
  | mk x =>
  cases b with
  | mk y =>
    constructor
    · intro h
      have : (x == y) = true := h
      rw [beq_iff_eq] at this
      rw [this]
    · intro h
      injection h with h
      show (x == y) = true
      exact beq_iff_eq.2 h
instance : LawfulBEq ByteArray where
  eq_of_beq h := (beq_iff _ _).1 h
  rfl := (beq_iff _ _).2 rfl
def less (a b : ByteArray) : Bool := Op.bytesLess a.data.toList b.data.toList
theorem bl_irrefl : ∀ a : List UInt8, Op.bytesLess a a = false
  | [] => rfl
  | a :: x => by simp [Op.bytesLess, bl_irrefl x]
theorem bl_trans : ∀ a b c : List UInt8, Op.bytesLess a b = true → Op.bytesLess b c = true → Op.bytesLess a c = true
  | _, _, [], _, h => by simp [Op.bytesLess] at h
  | _, [], _ :: _, h, _ => by simp [Op.bytesLess] at h
  | [], _ :: _, _ :: _, _, _ => rfl
  | a :: x, b :: y, c :: z, h1, h2 => by
    simp only [Op.bytesLess, Bool.or_eq_true, decide_eq_true_eq, Bool.and_eq_true, beq_iff_eq] at *
    rcases h1 with h1 | ⟨rfl, h1⟩
    · rcases h2 with h2 | ⟨rfl, h2⟩
      · exact .inl (UInt8.lt_trans h1 h2)
      · exact .inl h1
    · rcases h2 with h2 | ⟨rfl, h2⟩
      · exact .inl h2
      · exact .inr ⟨rfl, bl_trans x y z h1 h2⟩
theorem bl_total : ∀ a b : List UInt8, Op.bytesLess a b = false → Op.bytesLess b a = false → a = b
  | [], [], _, _ => rfl
  | [], _ :: _, h, _ => by simp [Op.bytesLess] at h
  | _ :: _, [], _, h => by simp [Op.bytesLess] at h
  | a :: x, b :: y, h1, h2 => by
    simp only [Op.bytesLess, Bool.or_eq_false_iff, decide_eq_false_iff_not, Bool.and_eq_false_iff, beq_eq_false_iff_ne] at h1 h2
    have e : a = b := UInt8.le_antisymm (UInt8.not_lt.1 h2.1) (UInt8.not_lt.1 h1.1)
    subst e
    have h3 : Op.bytesLess x y = false := h1.2.resolve_left (fun h => h rfl)
    have h4 : Op.bytesLess y x = false := h2.2.resolve_left (fun h => h rfl)
    rw [bl_total x y h3 h4]
theorem less_irrefl (a : ByteArray) : less a a = false := bl_irrefl _
theorem less_trans {a b c : ByteArray} (h : less a b = true) (k : less b c = true) : less a c = true := bl_trans _ _ _ h k
theorem less_total {a b : ByteArray} (h : less a b = false) (k : less b a = false) : a = b := ByteArray.ext (Array.ext' (bl_total _ _ h k))
theorem less_asymm {a b : ByteArray} (h : less a b = true) : less b a = false := by
  cases k : less b a with
  | false => rfl
  | true => exact absurd (less_trans h k) (by rw [less_irrefl]; decide)
theorem less_ne {a b : ByteArray} (h : less a b = true) : a ≠ b := fun e => by rw [e, less_irrefl] at h; exact absurd h (by decide)
/-- ascending, each once -/
def Asc (l : List ByteArray) : Prop := l.Pairwise (fun a b => less a b = true)
theorem asc_ext : ∀ {l m : List ByteArray}, Asc l → Asc m → (∀ x, x ∈ l ↔ x ∈ m) → l = m
  | [], [], _, _, _ => rfl
  | [], b :: m, _, _, h => absurd ((h b).2 (List.mem_cons_self ..)) List.not_mem_nil
  | a :: l, [], _, _, h => absurd ((h a).1 (List.mem_cons_self ..)) List.not_mem_nil
  | a :: l, b :: m, hl, hm, h => by
    have hl' := List.pairwise_cons.1 hl
    have hm' := List.pairwise_cons.1 hm
    have e : a = b := by
      rcases List.mem_cons.1 ((h a).1 (List.mem_cons_self ..)) with e | e
      · exact e
      · rcases List.mem_cons.1 ((h b).2 (List.mem_cons_self ..)) with f | f
        · exact f.symm
        · have h1 := hm'.1 a e
          have h2 := hl'.1 b f
          rw [less_asymm h1] at h2
          exact absurd h2 (by decide)
    subst e
    have : l = m := asc_ext hl'.2 hm'.2 (fun x => by
      constructor
      · intro hx
        rcases List.mem_cons.1 ((h x).1 (List.mem_cons_of_mem _ hx)) with e | e
        · exact absurd e.symm (less_ne (hl'.1 x hx))
        · exact e
      · intro hx
        rcases List.mem_cons.1 ((h x).2 (List.mem_cons_of_mem _ hx)) with e | e
        · exact absurd e.symm (less_ne (hm'.1 x hx))
        · exact e)
    rw [this]
theorem asc_nodup {l : List ByteArray} (h : Asc l) : l.Nodup := h.imp less_ne
theorem asc_filter {l : List ByteArray} (h : Asc l) (p : ByteArray → Bool) : Asc (l.filter p) := List.Pairwise.filter p h

/-! ### classes -/
/-- a class: its name, its superclasses -/
abbrev Cl := ByteArray × List ByteArray
def find (cs : List Cl) (a : ByteArray) : Option Cl := cs.find? (fun c => c.1 == a)
def has (cs : List Cl) (a : ByteArray) : Bool := cs.any (fun c => c.1 == a)
def sups (cs : List Cl) (a : ByteArray) : List ByteArray := match find cs a with
  | some c => c.2
  | none => []
def addNew (m : List ByteArray) : List ByteArray → List ByteArray
  | [] => m
  | s :: r => if m.contains s then addNew m r else addNew (m ++ [s]) r
/-- what the search from class to class meets; i of the list are done -/
def bfs (cs : List Cl) : Nat → Nat → List ByteArray → List ByteArray
  | 0, _, m => m
  | k + 1, i, m => if h : i < m.length then bfs cs k (i + 1) (addNew m (sups cs m[i])) else m
/-- all superclasses of a theory -/
def allSups (cs : List Cl) : List ByteArray := cs.flatMap (·.2)
/-- a class and all above it, in the order of the search -/
def abL (cs : List Cl) (a : ByteArray) : List ByteArray := bfs cs ((allSups cs).length + 2) 0 [a]
def belowB (cs : List Cl) (a b : ByteArray) : Bool := (abL cs a).contains b

inductive Reach (cs : List Cl) (a : ByteArray) : ByteArray → Prop
  | refl : Reach cs a a
  | step {b s : ByteArray} : Reach cs a b → s ∈ sups cs b → Reach cs a s
theorem Reach.trans {cs : List Cl} {a b c : ByteArray} (h : Reach cs a b) (k : Reach cs b c) : Reach cs a c := by
  induction k with
  | refl => exact h
  | step _ hs ih => exact ih.step hs

theorem addNew_mem (m l : List ByteArray) (x : ByteArray) : x ∈ addNew m l ↔ x ∈ m ∨ x ∈ l := by
  induction l generalizing m with
  | nil => simp [addNew]
  | cons s r ih =>
    unfold addNew
    split
    · rename_i h
      rw [ih]
      have hs : s ∈ m := by simpa using h
      constructor
      · rintro (h1 | h1)
        · exact .inl h1
        · exact .inr (List.mem_cons_of_mem _ h1)
      · rintro (h1 | h1)
        · exact .inl h1
        · rcases List.mem_cons.1 h1 with rfl | h1
          · exact .inl hs
          · exact .inr h1
    · rw [ih]
      simp only [List.mem_append, List.mem_cons, List.mem_singleton, List.not_mem_nil, or_false]
      constructor
      · rintro ((h1 | h1) | h1)
        · exact .inl h1
        · exact .inr (.inl h1)
        · exact .inr (.inr h1)
      · rintro (h1 | h1 | h1)
        · exact .inl (.inl h1)
        · exact .inl (.inr h1)
        · exact .inr h1
theorem addNew_nodup (m l : List ByteArray) (h : m.Nodup) : (addNew m l).Nodup := by
  induction l generalizing m with
  | nil => exact h
  | cons s r ih =>
    unfold addNew
    split
    · exact ih m h
    · rename_i hs
      refine ih _ ?_
      rw [List.nodup_append]
      refine ⟨h, by simp, fun x hx y hy e => ?_⟩
      subst e
      rw [List.mem_singleton] at hy
      subst hy
      exact hs (by simpa using hx)
theorem addNew_prefix (m l : List ByteArray) : ∃ r, addNew m l = m ++ r := by
  induction l generalizing m with
  | nil => exact ⟨[], by simp [addNew]⟩
  | cons s r ih =>
    unfold addNew
    split
    · exact ih m
    · obtain ⟨q, hq⟩ := ih (m ++ [s])
      exact ⟨s :: q, by rw [hq]; simp⟩
theorem sups_all (cs : List Cl) (a s : ByteArray) (h : s ∈ sups cs a) : s ∈ allSups cs := by
  unfold sups at h
  split at h
  · rename_i c hc
    exact List.mem_flatMap.2 ⟨c, List.mem_of_find?_eq_some hc, h⟩
  · exact absurd h List.not_mem_nil

theorem nodup_len : ∀ {l m : List ByteArray}, l.Nodup → (∀ x ∈ l, x ∈ m) → l.length ≤ m.length
  | [], _, _, _ => Nat.zero_le _
  | x :: r, m, h, hs => by
    have h' := List.nodup_cons.1 h
    have hx := hs x (List.mem_cons_self ..)
    have := nodup_len (l := r) (m := m.erase x) h'.2 (fun y hy => (List.mem_erase_of_ne (fun e : y = x => h'.1 (by rw [← e]; exact hy))).2 (hs y (List.mem_cons_of_mem _ hy)))
    rw [List.length_erase_of_mem hx] at this
    have := List.length_pos_of_mem hx
    rw [List.length_cons]
    omega
/-- what the search finds: closed, and reached -/
theorem bfs_spec (cs : List Cl) (a : ByteArray) : ∀ (k i : Nat) (m : List ByteArray), m.Nodup → (∀ x ∈ m, x = a ∨ x ∈ allSups cs) → (∀ x ∈ m, Reach cs a x) → a ∈ m → i ≤ m.length →
    (∀ j (h : j < m.length), j < i → ∀ s ∈ sups cs m[j], s ∈ m) → (allSups cs).length + 2 ≤ k + i →
    (bfs cs k i m).Nodup ∧ (∀ x ∈ bfs cs k i m, Reach cs a x) ∧ a ∈ bfs cs k i m ∧ (∀ x ∈ bfs cs k i m, ∀ s ∈ sups cs x, s ∈ bfs cs k i m) ∧ ∀ x ∈ bfs cs k i m, x = a ∨ x ∈ allSups cs := by
  intro k
  induction k with
  | zero =>
    intro i m hn hs hr ha hi hd hk
    have hlen : m.length ≤ (a :: allSups cs).length := nodup_len hn (fun x hx => by
      rcases hs x hx with rfl | h
      · exact List.mem_cons_self ..
      · exact List.mem_cons_of_mem _ h)
    rw [List.length_cons] at hlen
    omega
  | succ k ih =>
    intro i m hn hs hr ha hi hd hk
    unfold bfs
    split
    · rename_i hlt
      obtain ⟨r, hr'⟩ := addNew_prefix m (sups cs m[i])
      refine ih (i + 1) _ (addNew_nodup _ _ hn) (fun x hx => ?_) (fun x hx => ?_) ((addNew_mem ..).2 (.inl ha)) (by rw [hr', List.length_append]; omega) (fun j hj hji s hsj => ?_) (by omega)
      · rcases (addNew_mem ..).1 hx with h | h
        · exact hs x h
        · exact .inr (sups_all _ _ _ h)
      · rcases (addNew_mem ..).1 hx with h | h
        · exact hr x h
        · exact (hr _ (List.getElem_mem hlt)).step h
      · have hjm : j < m.length := by omega
        have e : (addNew m (sups cs m[i]))[j]'hj = m[j] := by
          simp only [hr']
          exact List.getElem_append_left hjm
        rw [e] at hsj
        by_cases hji2 : j = i
        · subst hji2
          exact (addNew_mem ..).2 (.inr hsj)
        · exact (addNew_mem ..).2 (.inl (hd j hjm (by omega) s hsj))
    · rename_i hge
      refine ⟨hn, hr, ha, fun x hx s hsx => ?_, hs⟩
      obtain ⟨j, hj, rfl⟩ := List.mem_iff_getElem.1 hx
      exact hd j hj (by omega) s hsx
theorem abL_spec (cs : List Cl) (a : ByteArray) : (abL cs a).Nodup ∧ (∀ x ∈ abL cs a, Reach cs a x) ∧ a ∈ abL cs a ∧ (∀ x ∈ abL cs a, ∀ s ∈ sups cs x, s ∈ abL cs a) ∧ ∀ x ∈ abL cs a, x = a ∨ x ∈ allSups cs :=
  bfs_spec cs a _ 0 [a] (by simp) (fun x hx => .inl (by simpa using hx)) (fun x hx => by rw [List.mem_singleton.1 hx]; exact .refl) (by simp) (by simp) (fun j _ hj => absurd hj (Nat.not_lt_zero _)) (by omega)
theorem below_iff {cs : List Cl} {a b : ByteArray} : belowB cs a b = true ↔ Reach cs a b := by
  unfold belowB
  rw [List.contains_iff_mem]
  obtain ⟨_, h1, h2, h3, _⟩ := abL_spec cs a
  exact ⟨h1 b, fun h => by
    induction h with
    | refl => exact h2
    | step _ hs ih => exact h3 _ ih _ hs⟩
theorem below_refl (cs : List Cl) (a : ByteArray) : belowB cs a a = true := below_iff.2 .refl
theorem below_trans {cs : List Cl} {a b c : ByteArray} (h : belowB cs a b = true) (k : belowB cs b c = true) : belowB cs a c = true := below_iff.2 ((below_iff.1 h).trans (below_iff.1 k))
end Go.Proofs.Ythfomoigaoffgaa.O
