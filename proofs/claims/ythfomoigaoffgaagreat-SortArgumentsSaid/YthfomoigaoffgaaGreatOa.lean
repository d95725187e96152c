/- Plain models of sorts: what is below, least, Normal, Meet; what is computed of them. -/
import GoSem.Op.String
import Derived.Lib.Strings
import Derived.Test.YthfomoigaoffgaaGreatIx
namespace Go.Proofs.YthfomoigaoffgaaGreat.O
set_option linter.unusedSimpArgs false
set_option linter.unusedVariables false
open Go

/-! ### names and their order -/
theorem beq_iff (a b : ByteArray) : (a == b) = true ↔ a = b := by
  cases a with
  | mk x =>
  cases b with
  | mk y =>
    constructor
    · intro h
      have : (x == y) = true := h
      rw [beq_iff_eq] at this
      rw [this]
    · intro h
      injection h with h
      show (x == y) = true
      exact beq_iff_eq.2 h
instance : LawfulBEq ByteArray where
  eq_of_beq h := (beq_iff _ _).1 h
  rfl := (beq_iff _ _).2 rfl
def less (a b : ByteArray) : Bool := Op.bytesLess a.data.toList b.data.toList
theorem bl_irrefl : ∀ a : List UInt8, Op.bytesLess a a = false
  | [] => rfl
  | a :: x => by simp [Op.bytesLess, bl_irrefl x]
theorem bl_trans : ∀ a b c : List UInt8, Op.bytesLess a b = true → Op.bytesLess b c = true → Op.bytesLess a c = true
  | _, _, [], _, h => by simp [Op.bytesLess] at h
  | _, [], _ :: _, h, _ => by simp [Op.bytesLess] at h
  | [], _ :: _, _ :: _, _, _ => rfl
  | a :: x, b :: y, c :: z, h1, h2 => by
    simp only [Op.bytesLess, Bool.or_eq_true, decide_eq_true_eq, Bool.and_eq_true, beq_iff_eq] at *
    rcases h1 with h1 | ⟨rfl, h1⟩
    · rcases h2 with h2 | ⟨rfl, h2⟩
      · exact .inl (UInt8.lt_trans h1 h2)
      · exact .inl h1
    · rcases h2 with h2 | ⟨rfl, h2⟩
      · exact .inl h2
      · exact .inr ⟨rfl, bl_trans x y z h1 h2⟩
theorem bl_total : ∀ a b : List UInt8, Op.bytesLess a b = false → Op.bytesLess b a = false → a = b
  | [], [], _, _ => rfl
  | [], _ :: _, h, _ => by simp [Op.bytesLess] at h
  | _ :: _, [], _, h => by simp [Op.bytesLess] at h
  | a :: x, b :: y, h1, h2 => by
    simp only [Op.bytesLess, Bool.or_eq_false_iff, decide_eq_false_iff_not, Bool.and_eq_false_iff, beq_eq_false_iff_ne] at h1 h2
    have e : a = b := UInt8.le_antisymm (UInt8.not_lt.1 h2.1) (UInt8.not_lt.1 h1.1)
    subst e
    have h3 : Op.bytesLess x y = false := h1.2.resolve_left (fun h => h rfl)
    have h4 : Op.bytesLess y x = false := h2.2.resolve_left (fun h => h rfl)
    rw [bl_total x y h3 h4]
theorem less_irrefl (a : ByteArray) : less a a = false := bl_irrefl _
theorem less_trans {a b c : ByteArray} (h : less a b = true) (k : less b c = true) : less a c = true := bl_trans _ _ _ h k
theorem less_total {a b : ByteArray} (h : less a b = false) (k : less b a = false) : a = b := ByteArray.ext (Array.ext' (bl_total _ _ h k))
theorem less_asymm {a b : ByteArray} (h : less a b = true) : less b a = false := by
  cases k : less b a with
  | false => rfl
  | true => exact absurd (less_trans h k) (by rw [less_irrefl]; decide)
theorem less_ne {a b : ByteArray} (h : less a b = true) : a ≠ b := fun e => by rw [e, less_irrefl] at h; exact absurd h (by decide)
/-- ascending, each once -/
def Asc (l : List ByteArray) : Prop := l.Pairwise (fun a b => less a b = true)
theorem asc_ext : ∀ {l m : List ByteArray}, Asc l → Asc m → (∀ x, x ∈ l ↔ x ∈ m) → l = m
  | [], [], _, _, _ => rfl
  | [], b :: m, _, _, h => absurd ((h b).2 (List.mem_cons_self ..)) List.not_mem_nil
  | a :: l, [], _, _, h => absurd ((h a).1 (List.mem_cons_self ..)) List.not_mem_nil
  | a :: l, b :: m, hl, hm, h => by
    have hl' := List.pairwise_cons.1 hl
    have hm' := List.pairwise_cons.1 hm
    have e : a = b := by
      rcases List.mem_cons.1 ((h a).1 (List.mem_cons_self ..)) with e | e
      · exact e
      · rcases List.mem_cons.1 ((h b).2 (List.mem_cons_self ..)) with f | f
        · exact f.symm
        · have h1 := hm'.1 a e
          have h2 := hl'.1 b f
          rw [less_asymm h1] at h2
          exact absurd h2 (by decide)
    subst e
    have : l = m := asc_ext hl'.2 hm'.2 (fun x => by
      constructor
      · intro hx
        rcases List.mem_cons.1 ((h x).1 (List.mem_cons_of_mem _ hx)) with e | e
        · exact absurd e.symm (less_ne (hl'.1 x hx))
        · exact e
      · intro hx
        rcases List.mem_cons.1 ((h x).2 (List.mem_cons_of_mem _ hx)) with e | e
        · exact absurd e.symm (less_ne (hm'.1 x hx))
        · exact e)
    rw [this]
theorem asc_nodup {l : List ByteArray} (h : Asc l) : l.Nodup := h.imp less_ne
theorem asc_filter {l : List ByteArray} (h : Asc l) (p : ByteArray → Bool) : Asc (l.filter p) := List.Pairwise.filter p h

/-! ### classes -/
/-- a class: its name, its superclasses -/
abbrev Cl := ByteArray × List ByteArray
def find (cs : List Cl) (a : ByteArray) : Option Cl := cs.find? (fun c => c.1 == a)
def has (cs : List Cl) (a : ByteArray) : Bool := cs.any (fun c => c.1 == a)
def sups (cs : List Cl) (a : ByteArray) : List ByteArray := match find cs a with
  | some c => c.2
  | none => []
def addNew (m : List ByteArray) : List ByteArray → List ByteArray
  | [] => m
  | s :: r => if m.contains s then addNew m r else addNew (m ++ [s]) r
/-- what the search from class to class meets; i of the list are done -/
def bfs (cs : List Cl) : Nat → Nat → List ByteArray → List ByteArray
  | 0, _, m => m
  | k + 1, i, m => if h : i < m.length then bfs cs k (i + 1) (addNew m (sups cs m[i])) else m
/-- all superclasses of a theory -/
def allSups (cs : List Cl) : List ByteArray := cs.flatMap (·.2)
/-- a class and all above it, in the order of the search -/
def abL (cs : List Cl) (a : ByteArray) : List ByteArray := bfs cs ((allSups cs).length + 2) 0 [a]
def belowB (cs : List Cl) (a b : ByteArray) : Bool := (abL cs a).contains b

inductive Reach (cs : List Cl) (a : ByteArray) : ByteArray → Prop
  | refl : Reach cs a a
  | step {b s : ByteArray} : Reach cs a b → s ∈ sups cs b → Reach cs a s
theorem Reach.trans {cs : List Cl} {a b c : ByteArray} (h : Reach cs a b) (k : Reach cs b c) : Reach cs a c := by
  induction k with
  | refl => exact h
  | step _ hs ih => exact ih.step hs

theorem addNew_mem (m l : List ByteArray) (x : ByteArray) : x ∈ addNew m l ↔ x ∈ m ∨ x ∈ l := by
  induction l generalizing m with
  | nil => simp [addNew]
  | cons s r ih =>
    unfold addNew
    split
    · rename_i h
      rw [ih]
      have hs : s ∈ m := by simpa using h
      constructor
      · rintro (h1 | h1)
        · exact .inl h1
        · exact .inr (List.mem_cons_of_mem _ h1)
      · rintro (h1 | h1)
        · exact .inl h1
        · rcases List.mem_cons.1 h1 with rfl | h1
          · exact .inl hs
          · exact .inr h1
    · rw [ih]
      simp only [List.mem_append, List.mem_cons, List.mem_singleton, List.not_mem_nil, or_false]
      constructor
      · rintro ((h1 | h1) | h1)
        · exact .inl h1
        · exact .inr (.inl h1)
        · exact .inr (.inr h1)
      · rintro (h1 | h1 | h1)
        · exact .inl (.inl h1)
        · exact .inl (.inr h1)
        · exact .inr h1
theorem addNew_nodup (m l : List ByteArray) (h : m.Nodup) : (addNew m l).Nodup := by
  induction l generalizing m with
  | nil => exact h
  | cons s r ih =>
    unfold addNew
    split
    · exact ih m h
    · rename_i hs
      refine ih _ ?_
      rw [List.nodup_append]
      refine ⟨h, by simp, fun x hx y hy e => ?_⟩
      subst e
      rw [List.mem_singleton] at hy
      subst hy
      exact hs (by simpa using hx)
theorem addNew_prefix (m l : List ByteArray) : ∃ r, addNew m l = m ++ r := by
  induction l generalizing m with
  | nil => exact ⟨[], by simp [addNew]⟩
  | cons s r ih =>
    unfold addNew
    split
    · exact ih m
    · obtain ⟨q, hq⟩ := ih (m ++ [s])
      exact ⟨s :: q, by rw [hq]; simp⟩
theorem sups_all (cs : List Cl) (a s : ByteArray) (h : s ∈ sups cs a) : s ∈ allSups cs := by
  unfold sups at h
  split at h
  · rename_i c hc
    exact List.mem_flatMap.2 ⟨c, List.mem_of_find?_eq_some hc, h⟩
  · exact absurd h List.not_mem_nil

theorem nodup_len : ∀ {l m : List ByteArray}, l.Nodup → (∀ x ∈ l, x ∈ m) → l.length ≤ m.length
  | [], _, _, _ => Nat.zero_le _
  | x :: r, m, h, hs => by
    have h' := List.nodup_cons.1 h
    have hx := hs x (List.mem_cons_self ..)
    have := nodup_len (l := r) (m := m.erase x) h'.2 (fun y hy => (List.mem_erase_of_ne (fun e : y = x => h'.1 (by rw [← e]; exact hy))).2 (hs y (List.mem_cons_of_mem _ hy)))
    rw [List.length_erase_of_mem hx] at this
    have := List.length_pos_of_mem hx
    rw [List.length_cons]
    omega
/-- what the search finds: closed, and reached -/
theorem bfs_spec (cs : List Cl) (a : ByteArray) : ∀ (k i : Nat) (m : List ByteArray), m.Nodup → (∀ x ∈ m, x = a ∨ x ∈ allSups cs) → (∀ x ∈ m, Reach cs a x) → a ∈ m → i ≤ m.length →
    (∀ j (h : j < m.length), j < i → ∀ s ∈ sups cs m[j], s ∈ m) → (allSups cs).length + 2 ≤ k + i →
    (bfs cs k i m).Nodup ∧ (∀ x ∈ bfs cs k i m, Reach cs a x) ∧ a ∈ bfs cs k i m ∧ (∀ x ∈ bfs cs k i m, ∀ s ∈ sups cs x, s ∈ bfs cs k i m) ∧ ∀ x ∈ bfs cs k i m, x = a ∨ x ∈ allSups cs := by
  intro k
  induction k with
  | zero =>
    intro i m hn hs hr ha hi hd hk
    have hlen : m.length ≤ (a :: allSups cs).length := nodup_len hn (fun x hx => by
      rcases hs x hx with rfl | h
      · exact List.mem_cons_self ..
      · exact List.mem_cons_of_mem _ h)
    rw [List.length_cons] at hlen
    omega
  | succ k ih =>
    intro i m hn hs hr ha hi hd hk
    unfold bfs
    split
    · rename_i hlt
      obtain ⟨r, hr'⟩ := addNew_prefix m (sups cs m[i])
      refine ih (i + 1) _ (addNew_nodup _ _ hn) (fun x hx => ?_) (fun x hx => ?_) ((addNew_mem ..).2 (.inl ha)) (by rw [hr', List.length_append]; omega) (fun j hj hji s hsj => ?_) (by omega)
      · rcases (addNew_mem ..).1 hx with h | h
        · exact hs x h
        · exact .inr (sups_all _ _ _ h)
      · rcases (addNew_mem ..).1 hx with h | h
        · exact hr x h
        · exact (hr _ (List.getElem_mem hlt)).step h
      · have hjm : j < m.length := by omega
        have e : (addNew m (sups cs m[i]))[j]'hj = m[j] := by
          simp only [hr']
          exact List.getElem_append_left hjm
        rw [e] at hsj
        by_cases hji2 : j = i
        · subst hji2
          exact (addNew_mem ..).2 (.inr hsj)
        · exact (addNew_mem ..).2 (.inl (hd j hjm (by omega) s hsj))
    · rename_i hge
      refine ⟨hn, hr, ha, fun x hx s hsx => ?_, hs⟩
      obtain ⟨j, hj, rfl⟩ := List.mem_iff_getElem.1 hx
      exact hd j hj (by omega) s hsx
theorem abL_spec (cs : List Cl) (a : ByteArray) : (abL cs a).Nodup ∧ (∀ x ∈ abL cs a, Reach cs a x) ∧ a ∈ abL cs a ∧ (∀ x ∈ abL cs a, ∀ s ∈ sups cs x, s ∈ abL cs a) ∧ ∀ x ∈ abL cs a, x = a ∨ x ∈ allSups cs :=
  bfs_spec cs a _ 0 [a] (by simp) (fun x hx => .inl (by simpa using hx)) (fun x hx => by rw [List.mem_singleton.1 hx]; exact .refl) (by simp) (by simp) (fun j _ hj => absurd hj (Nat.not_lt_zero _)) (by omega)
theorem below_iff {cs : List Cl} {a b : ByteArray} : belowB cs a b = true ↔ Reach cs a b := by
  unfold belowB
  rw [List.contains_iff_mem]
  obtain ⟨_, h1, h2, h3, _⟩ := abL_spec cs a
  exact ⟨h1 b, fun h => by
    induction h with
    | refl => exact h2
    | step _ hs ih => exact h3 _ ih _ hs⟩
theorem below_refl (cs : List Cl) (a : ByteArray) : belowB cs a a = true := below_iff.2 .refl
theorem below_trans {cs : List Cl} {a b c : ByteArray} (h : belowB cs a b = true) (k : belowB cs b c = true) : belowB cs a c = true := below_iff.2 ((below_iff.1 h).trans (below_iff.1 k))
end Go.Proofs.YthfomoigaoffgaaGreat.O
namespace Go.Proofs.YthfomoigaoffgaaGreat.O
set_option linter.unusedSimpArgs false
set_option linter.unusedVariables false
open Go

def bz (s : ByteArray) (i : Nat) : Nat := match s.data.toList[i]? with
  | some b => b.toNat
  | none => 0
def letB (c : UInt8) : Bool := decide (97 ≤ c.toNat ∧ c.toNat ≤ 122) || decide (65 ≤ c.toNat ∧ c.toNat ≤ 90)
def digB (c : UInt8) : Bool := decide (48 ≤ c.toNat ∧ c.toNat ≤ 57)
def nameChar (c : UInt8) : Bool := letB c || digB c || c == 95 || c == 39 || c == 46
/-- is a text a name? -/
def nameB (s : ByteArray) : Bool := match s.data.toList with
  | [] => false
  | c :: r => decide (s.size ≤ 40) && (letB c || c == 95) && (c :: r).all nameChar
/-- does a name not ascend behind the one ahead? -/
def outB : Option ByteArray → ByteArray → Bool
  | some p, s => !less p s
  | none, _ => false
def supE (met : List ByteArray) : Option ByteArray → List ByteArray → Int
  | _, [] => 0
  | prev, s :: r => if met.contains s then (if outB prev s then 17 else supE met (some s) r) else 9
def clsE : List ByteArray → List Cl → Int
  | _, [] => 0
  | met, c :: r => if nameB c.1 then (if met.contains c.1 then 10 else if 20 < c.2.length then 5 else if supE met none c.2 ≠ 0 then supE met none c.2 else clsE (met ++ [c.1]) r) else 30
/-- the error of the classes -/
def classesE (cs : List Cl) : Int := if 300 < cs.length then 5 else clsE [] cs

theorem supE_mem {met : List ByteArray} : ∀ (l : List ByteArray) (p : Option ByteArray), supE met p l = 0 → ∀ s ∈ l, s ∈ met
  | [], _, _, s, hs => absurd hs List.not_mem_nil
  | x :: r, p, h, s, hs => by
    unfold supE at h
    split at h
    · rename_i hx
      split at h
      · exact absurd h (by decide)
      · rcases List.mem_cons.1 hs with rfl | hs
        · simpa using hx
        · exact supE_mem r _ h s hs
    · exact absurd h (by decide)
/-- right classes: each one's superclasses stand ahead, names are different -/
structure Right (met : List ByteArray) (cs : List Cl) : Prop where
  nodup : (cs.map (·.1)).Nodup
  fresh : ∀ c ∈ cs, c.1 ∉ met
  sup : ∀ i (h : i < cs.length), ∀ s ∈ (cs[i]'h).2, s ∈ met ∨ ∃ j, ∃ k : j < cs.length, j < i ∧ (cs[j]'k).1 = s
theorem clsE_right : ∀ (cs : List Cl) (met : List ByteArray), clsE met cs = 0 → Right met cs
  | [], met, _ => ⟨by simp, fun c h => absurd h List.not_mem_nil, fun i h => absurd h (Nat.not_lt_zero _)⟩
  | c :: r, met, h => by
    unfold clsE at h
    split at h
    · split at h
      · exact absurd h (by decide)
      · rename_i hm
        split at h
        · exact absurd h (by decide)
        · split at h
          · rename_i h1; exact absurd h h1
          · rename_i h1
            have h1 : supE met none c.2 = 0 := Decidable.byContradiction h1
            have ih := clsE_right r _ h
            have hcm : c.1 ∉ met := by simpa using hm
            refine ⟨?_, ?_, ?_⟩
            · rw [List.map_cons, List.nodup_cons]
              refine ⟨fun hc => ?_, ih.nodup⟩
              obtain ⟨d, hd, e⟩ := List.mem_map.1 hc
              exact ih.fresh d hd (by rw [e]; exact List.mem_append_right _ (List.mem_singleton.2 rfl))
            · intro d hd
              rcases List.mem_cons.1 hd with rfl | hd
              · exact hcm
              · exact fun hx => ih.fresh d hd (List.mem_append_left _ hx)
            · intro i hi s hs
              cases i with
              | zero => exact .inl (supE_mem _ _ h1 s hs)
              | succ i =>
                have hi' : i < r.length := by simpa using hi
                rcases ih.sup i hi' s hs with h2 | ⟨j, k, hj, e⟩
                · rcases List.mem_append.1 h2 with h2 | h2
                  · exact .inl h2
                  · exact .inr ⟨0, by simp, by omega, (List.mem_singleton.1 h2).symm⟩
                · exact .inr ⟨j + 1, by simpa using k, by omega, e⟩
    · exact absurd h (by decide)

/-- all classes of the second sort have one of the first below -/
def withinB (cs : List Cl) (a b : List ByteArray) : Bool := b.all (fun c => a.any (fun d => belowB cs d c))
def knownB (cs : List Cl) (s : List ByteArray) : Bool := s.all (has cs)
def lessB (cs : List Cl) (a b : List ByteArray) : Bool := decide (classesE cs = 0) && (knownB cs (a ++ b) && withinB cs a b)
/-- a name into an ascending list, once -/
def put : List ByteArray → ByteArray → List ByteArray
  | [], s => [s]
  | x :: r, s => if less x s then x :: put r s else if x == s then x :: r else s :: x :: r
def setOf (s : List ByteArray) : List ByteArray := s.foldl put []
def leastB (cs : List Cl) (s : List ByteArray) : List ByteArray := (setOf s).filter (fun c => !(s.any (fun d => d != c && belowB cs d c)))
def normB (cs : List Cl) (s : List ByteArray) : List ByteArray × Int :=
  if classesE cs ≠ 0 then ([], classesE cs) else if 20 < s.length then ([], 5) else if knownB cs s then (leastB cs s, 0) else ([], 9)
def meetB (cs : List Cl) (a b : List ByteArray) : List ByteArray × Int :=
  if (normB cs a).2 ≠ 0 then ([], (normB cs a).2) else if (normB cs b).2 ≠ 0 then ([], (normB cs b).2) else
    if 20 < (leastB cs (a ++ b)).length then ([], 5) else (leastB cs (a ++ b), 0)

theorem put_mem : ∀ (l : List ByteArray) (s x : ByteArray), x ∈ put l s ↔ x = s ∨ x ∈ l
  | [], s, x => by simp [put]
  | y :: r, s, x => by
    unfold put
    split
    · rw [List.mem_cons, put_mem r s x, List.mem_cons]
      constructor
      · rintro (h | h | h)
        · exact .inr (.inl h)
        · exact .inl h
        · exact .inr (.inr h)
      · rintro (h | h | h)
        · exact .inr (.inl h)
        · exact .inl h
        · exact .inr (.inr h)
    · split
      · rename_i h
        have e : y = s := (beq_iff _ _).1 h
        subst e
        simp
      · simp
theorem put_asc : ∀ (l : List ByteArray) (s : ByteArray), Asc l → Asc (put l s)
  | [], s, _ => by unfold put Asc; simp
  | y :: r, s, h => by
    have h' := List.pairwise_cons.1 h
    unfold put
    split
    · rename_i hl
      refine List.pairwise_cons.2 ⟨fun x hx => ?_, put_asc r s h'.2⟩
      rcases (put_mem r s x).1 hx with rfl | hx
      · exact hl
      · exact h'.1 x hx
    · rename_i hl
      split
      · exact h
      · rename_i hne
        have hs : less s y = true := by
          cases k : less s y with
          | true => rfl
          | false => exact absurd ((beq_iff _ _).2 (less_total (by simpa using hl) k)) hne
        refine List.pairwise_cons.2 ⟨fun x hx => ?_, h⟩
        rcases List.mem_cons.1 hx with rfl | hx
        · exact hs
        · exact less_trans hs (h'.1 x hx)
theorem fold_put (s : List ByteArray) : ∀ l, Asc l → Asc (s.foldl put l) ∧ ∀ x, x ∈ s.foldl put l ↔ x ∈ l ∨ x ∈ s := by
  induction s with
  | nil => intro l h; exact ⟨h, by simp⟩
  | cons y r ih =>
    intro l h
    rw [List.foldl_cons]
    obtain ⟨h1, h2⟩ := ih (put l y) (put_asc l y h)
    refine ⟨h1, fun x => ?_⟩
    rw [h2, put_mem, List.mem_cons]
    constructor
    · rintro ((h | h) | h)
      · exact .inr (.inl h)
      · exact .inl h
      · exact .inr (.inr h)
    · rintro (h | h | h)
      · exact .inl (.inr h)
      · exact .inl (.inl h)
      · exact .inr h
theorem set_asc (s : List ByteArray) : Asc (setOf s) := (fold_put s [] List.Pairwise.nil).1
theorem set_mem (s : List ByteArray) (x : ByteArray) : x ∈ setOf s ↔ x ∈ s := by
  have := (fold_put s [] List.Pairwise.nil).2 x
  simpa [setOf] using this
theorem set_ext {s l : List ByteArray} (h : Asc l) (hm : ∀ x, x ∈ l ↔ x ∈ s) : l = setOf s := asc_ext h (set_asc s) (fun x => (hm x).trans (set_mem s x).symm)
theorem least_asc (cs : List Cl) (s : List ByteArray) : Asc (leastB cs s) := asc_filter (set_asc s) _
theorem least_mem {cs : List Cl} {s : List ByteArray} {x : ByteArray} : x ∈ leastB cs s ↔ x ∈ s ∧ ∀ d ∈ s, d ≠ x → belowB cs d x = false := by
  unfold leastB
  rw [List.mem_filter, set_mem, Bool.not_eq_true', List.any_eq_false]
  refine and_congr_right fun hx => ?_
  constructor
  · intro h d hd hne
    have := h d hd
    cases hb : belowB cs d x with
    | false => rfl
    | true =>
      rw [hb, Bool.and_true] at this
      exact absurd (bne_iff_ne.2 hne) this
  · intro h d hd hb
    rw [Bool.and_eq_true, bne_iff_ne] at hb
    rw [h d hd hb.1] at hb
    exact absurd hb.2 (by decide)
theorem least_ext {cs : List Cl} {s l : List ByteArray} (h : Asc l) (hm : ∀ x, x ∈ l ↔ x ∈ s ∧ ∀ d ∈ s, d ≠ x → belowB cs d x = false) : l = leastB cs s :=
  asc_ext h (least_asc cs s) (fun x => (hm x).trans least_mem.symm)
theorem least_congr {cs : List Cl} {s t : List ByteArray} (h : ∀ x, x ∈ s ↔ x ∈ t) : leastB cs s = leastB cs t :=
  least_ext (least_asc cs s) (fun x => by rw [least_mem, h]; exact and_congr_right fun _ => ⟨fun k d hd => k d ((h d).2 hd), fun k d hd => k d ((h d).1 hd)⟩)

/-! ### right classes: an order -/
section
variable {cs : List Cl} (hR : Right [] cs)
include hR
theorem names_inj {i j : Nat} (hi : i < cs.length) (hj : j < cs.length) (h : (cs[i]'hi).1 = (cs[j]'hj).1) : i = j := by
  have h1 := hR.nodup
  have e : ((cs.map (·.1))[i]'(by simpa using hi)) = ((cs.map (·.1))[j]'(by simpa using hj)) := by simpa using h
  exact (List.getElem_inj h1).1 e
theorem find_at {i : Nat} (hi : i < cs.length) : find cs (cs[i]'hi).1 = some (cs[i]'hi) := by
  unfold find
  cases h : cs.find? (fun c => c.1 == (cs[i]'hi).1) with
  | none =>
    have := List.find?_eq_none.1 h (cs[i]'hi) (List.getElem_mem hi)
    exact absurd ((beq_iff _ _).2 rfl) this
  | some d =>
    have h1 := List.find?_some h
    obtain ⟨j, hj, rfl⟩ := List.mem_iff_getElem.1 (List.mem_of_find?_eq_some h)
    have := names_inj hR hj hi ((beq_iff _ _).1 h1)
    subst this
    rfl
theorem sups_at {i : Nat} (hi : i < cs.length) : sups cs (cs[i]'hi).1 = (cs[i]'hi).2 := by
  unfold sups
  rw [find_at hR hi]
/-- a superclass stands ahead -/
theorem reach_le {a b : ByteArray} (h : Reach cs a b) : ∀ i (hi : i < cs.length), (cs[i]'hi).1 = a → ∃ j, ∃ hj : j < cs.length, (cs[j]'hj).1 = b ∧ j ≤ i ∧ (j = i → a = b) := by
  induction h with
  | refl => intro i hi e; exact ⟨i, hi, e, Nat.le_refl _, fun _ => rfl⟩
  | step h hs ih =>
    intro i hi e
    obtain ⟨j, hj, e2, hle, _⟩ := ih i hi e
    rw [← e2, sups_at hR hj] at hs
    rcases hR.sup j hj _ hs with h1 | ⟨q, hq, hlt, e3⟩
    · exact absurd h1 List.not_mem_nil
    · exact ⟨q, hq, e3, by omega, fun e => by omega⟩
theorem below_antisymm {a b : ByteArray} (ha : has cs a = true) (h : belowB cs a b = true) (k : belowB cs b a = true) : a = b := by
  unfold has at ha
  rw [List.any_eq_true] at ha
  obtain ⟨c, hc, e⟩ := ha
  obtain ⟨i, hi, rfl⟩ := List.mem_iff_getElem.1 hc
  have e := (beq_iff _ _).1 e
  obtain ⟨j, hj, e2, hle, heq⟩ := reach_le hR (below_iff.1 h) i hi e
  obtain ⟨q, hq, e3, hle2, _⟩ := reach_le hR (below_iff.1 k) j hj e2
  have : q = i := names_inj hR hq hi (e3.trans e.symm)
  exact heq (by omega)
end
theorem classes_right {cs : List Cl} (h : classesE cs = 0) : Right [] cs := by
  unfold classesE at h
  split at h
  · exact absurd h (by decide)
  · exact clsE_right cs [] h
end Go.Proofs.YthfomoigaoffgaaGreat.O
namespace Go.Proofs.YthfomoigaoffgaaGreat.O
set_option linter.unusedSimpArgs false
set_option linter.unusedVariables false
open Go

theorem within_iff {cs : List Cl} {a b : List ByteArray} : withinB cs a b = true ↔ ∀ c ∈ b, ∃ d ∈ a, belowB cs d c = true := by
  unfold withinB
  rw [List.all_eq_true]
  exact forall_congr' fun c => forall_congr' fun _ => List.any_eq_true
theorem known_iff {cs : List Cl} {s : List ByteArray} : knownB cs s = true ↔ ∀ c ∈ s, has cs c = true := List.all_eq_true
theorem within_sub {cs : List Cl} {a b : List ByteArray} (h : ∀ x ∈ b, x ∈ a) : withinB cs a b = true := within_iff.2 fun c hc => ⟨c, h c hc, below_refl cs c⟩
theorem within_trans {cs : List Cl} {a b c : List ByteArray} (h : withinB cs a b = true) (k : withinB cs b c = true) : withinB cs a c = true := within_iff.2 fun x hx => by
  obtain ⟨y, hy, h1⟩ := within_iff.1 k x hx
  obtain ⟨z, hz, h2⟩ := within_iff.1 h y hy
  exact ⟨z, hz, below_trans h2 h1⟩
theorem has_at {cs : List Cl} {a : ByteArray} (h : has cs a = true) : ∃ i, ∃ hi : i < cs.length, (cs[i]'hi).1 = a := by
  unfold has at h
  rw [List.any_eq_true] at h
  obtain ⟨c, hc, e⟩ := h
  obtain ⟨i, hi, rfl⟩ := List.mem_iff_getElem.1 hc
  exact ⟨i, hi, (beq_iff _ _).1 e⟩
theorem least_sub {cs : List Cl} {s : List ByteArray} {x : ByteArray} (h : x ∈ leastB cs s) : x ∈ s := (least_mem.1 h).1
theorem least_known {cs : List Cl} {s : List ByteArray} (h : knownB cs s = true) : knownB cs (leastB cs s) = true := known_iff.2 fun x hx => known_iff.1 h x (least_sub hx)
theorem known_app {cs : List Cl} {a b : List ByteArray} : knownB cs (a ++ b) = (knownB cs a && knownB cs b) := List.all_append
theorem least_len {cs : List Cl} {s : List ByteArray} : (leastB cs s).length ≤ s.length := nodup_len (asc_nodup (least_asc cs s)) (fun x hx => least_sub hx)

theorem within_least {cs : List Cl} {a b s : List ByteArray} (h : ∀ x ∈ s, x ∈ a ∨ x ∈ b) {c : List ByteArray} (ha : withinB cs c a = true) (hb : withinB cs c b = true) : withinB cs c (leastB cs s) = true := within_iff.2 fun x hx => by
  rcases h x (least_sub hx) with h1 | h1
  · exact within_iff.1 ha x h1
  · exact within_iff.1 hb x h1
theorem least_idem {cs : List Cl} {s : List ByteArray} : leastB cs (leastB cs s) = leastB cs s :=
  (least_ext (least_asc cs s) (fun x => ⟨fun h => ⟨h, fun d hd hne => (least_mem.1 h).2 d (least_sub hd) hne⟩, fun h => h.1⟩)).symm
section
variable {cs : List Cl} (hR : Right [] cs)
include hR
/-- below each class of a sort there is a least one -/
theorem exists_least {s : List ByteArray} (hk : knownB cs s = true) {c : ByteArray} (hc : c ∈ s) : ∃ d ∈ leastB cs s, belowB cs d c = true := by
  have key : ∀ (n : Nat) (d : ByteArray) (i : Nat) (hi : i < cs.length), (cs[i]'hi).1 = d → d ∈ s → belowB cs d c = true → cs.length - i ≤ n → ∃ e ∈ leastB cs s, belowB cs e c = true := by
    intro n
    induction n with
    | zero => intro d i hi _ _ _ hn; omega
    | succ n ih =>
      intro d i hi e hd hb hn
      by_cases h : ∃ f ∈ s, f ≠ d ∧ belowB cs f d = true
      · obtain ⟨f, hf, hne, hfd⟩ := h
        obtain ⟨j, hj, ej⟩ := has_at (known_iff.1 hk f hf)
        obtain ⟨q, hq, eq, hle, heq⟩ := reach_le hR (below_iff.1 hfd) j hj ej
        have hqi : q = i := names_inj hR hq hi (eq.trans e.symm)
        subst hqi
        have hne2 : q ≠ j := fun h => hne (heq h)
        exact ih f j hj ej hf (below_trans hfd hb) (by omega)
      · refine ⟨d, least_mem.2 ⟨hd, fun f hf hne => ?_⟩, hb⟩
        cases hb2 : belowB cs f d with
        | false => rfl
        | true => exact absurd ⟨f, hf, hne, hb2⟩ h
  obtain ⟨i, hi, e⟩ := has_at (known_iff.1 hk c hc)
  exact key _ c i hi e hc (below_refl cs c) (Nat.le_refl _)
theorem least_within {s t : List ByteArray} (hk : knownB cs s = true) (h : ∀ x ∈ t, x ∈ s) : withinB cs (leastB cs s) t = true := within_iff.2 fun c hc => exists_least hR hk (h c hc)
/-- sorts within each other have one least sort -/
theorem least_same {a b : List ByteArray} (ka : knownB cs a = true) (kb : knownB cs b = true) : (withinB cs a b && withinB cs b a) = decide (leastB cs a = leastB cs b) := by
  rw [Bool.eq_iff_iff, Bool.and_eq_true, decide_eq_true_eq]
  have half : ∀ {a b : List ByteArray}, knownB cs a = true → withinB cs a b = true → withinB cs b a = true → ∀ x ∈ leastB cs a, x ∈ leastB cs b := by
    intro a b ka h1 h2 x hx
    obtain ⟨hxa, hmin⟩ := least_mem.1 hx
    have back : ∀ d ∈ b, belowB cs d x = true → d = x := by
      intro d hd hdx
      obtain ⟨e, he, hed⟩ := within_iff.1 h1 d hd
      have hex := below_trans hed hdx
      have : e = x := Decidable.byContradiction fun hne => by
        rw [hmin e he hne] at hex
        exact absurd hex (by decide)
      subst this
      exact (below_antisymm hR (known_iff.1 ka e hxa) hed hdx).symm
    obtain ⟨d, hd, hdx⟩ := within_iff.1 h2 x hxa
    have := back d hd hdx
    subst this
    refine least_mem.2 ⟨hd, fun f hf hne => ?_⟩
    cases hb : belowB cs f d with
    | false => rfl
    | true => exact absurd (back f hf hb) hne
  constructor
  · rintro ⟨h1, h2⟩
    exact asc_ext (least_asc cs a) (least_asc cs b) (fun x => ⟨half ka h1 h2 x, half kb h2 h1 x⟩)
  · intro h
    have a1 : withinB cs a (leastB cs a) = true := within_sub fun x hx => least_sub hx
    have b1 : withinB cs b (leastB cs b) = true := within_sub fun x hx => least_sub hx
    have a2 := least_within hR ka (fun x (hx : x ∈ a) => hx)
    have b2 := least_within hR kb (fun x (hx : x ∈ b) => hx)
    exact ⟨within_trans a1 (h ▸ b2), within_trans b1 (h ▸ a2)⟩
end

theorem norm_ok {cs : List Cl} {s : List ByteArray} (h : (normB cs s).2 = 0) : classesE cs = 0 ∧ s.length ≤ 20 ∧ knownB cs s = true ∧ normB cs s = (leastB cs s, 0) := by
  unfold normB at *
  split at h
  · rename_i h1; exact absurd h h1
  · rename_i h1
    split at h
    · exact absurd h (by decide)
    · rename_i h2
      split at h
      · rename_i h3
        exact ⟨Decidable.byContradiction h1, by omega, h3, by rw [if_neg h1, if_neg h2, if_pos h3]⟩
      · exact absurd h (by decide)
theorem norm_of {cs : List Cl} {s : List ByteArray} (h1 : classesE cs = 0) (h2 : s.length ≤ 20) (h3 : knownB cs s = true) : normB cs s = (leastB cs s, 0) := by
  unfold normB
  rw [if_neg (fun h => h h1), if_neg (by omega), if_pos h3]
theorem meet_ok {cs : List Cl} {a b : List ByteArray} (h : (meetB cs a b).2 = 0) : (normB cs a).2 = 0 ∧ (normB cs b).2 = 0 ∧ meetB cs a b = (leastB cs (a ++ b), 0) := by
  unfold meetB at *
  split at h
  · rename_i h1; exact absurd h h1
  · rename_i h1
    split at h
    · rename_i h2; exact absurd h h2
    · rename_i h2
      split at h
      · exact absurd h (by decide)
      · rename_i h3
        exact ⟨Decidable.byContradiction h1, Decidable.byContradiction h2, by rw [if_neg h1, if_neg h2, if_neg h3]⟩
/-- the law SortOrder, of the plain functions -/
theorem order_law {cs : List Cl} {a b c : List ByteArray} (ha : (normB cs a).2 = 0) (hb : (normB cs b).2 = 0) (hc : (normB cs c).2 = 0) (hm : (meetB cs a b).2 = 0) :
    lessB cs a a = true ∧ lessB cs (normB cs a).1 a = true ∧ lessB cs a (normB cs a).1 = true ∧ (lessB cs a b = true → lessB cs b c = true → lessB cs a c = true) ∧
    lessB cs (meetB cs a b).1 a = true ∧ lessB cs (meetB cs a b).1 b = true ∧ lessB cs c (meetB cs a b).1 = (lessB cs c a && lessB cs c b) := by
  obtain ⟨h0, la, ka, ea⟩ := norm_ok ha
  obtain ⟨_, lb, kb, eb⟩ := norm_ok hb
  obtain ⟨_, lc, kc, ec⟩ := norm_ok hc
  obtain ⟨_, _, em⟩ := meet_ok hm
  have hR := classes_right h0
  rw [ea, em]
  have kl := least_known ka
  have kab : knownB cs (a ++ b) = true := by rw [known_app, ka, kb]; rfl
  have km := least_known kab
  unfold lessB
  rw [decide_eq_true h0]
  simp only [Bool.true_and, known_app, ka, kb, kc, kl, km]
  refine ⟨within_sub (fun x hx => hx), least_within hR ka (fun x hx => hx), within_sub (fun x hx => least_sub hx), within_trans, least_within hR kab (fun x hx => List.mem_append_left _ hx), least_within hR kab (fun x hx => List.mem_append_right _ hx), ?_⟩
  rw [Bool.eq_iff_iff, Bool.and_eq_true]
  constructor
  · intro h
    exact ⟨within_trans h (least_within hR kab (fun x hx => List.mem_append_left _ hx)), within_trans h (least_within hR kab (fun x hx => List.mem_append_right _ hx))⟩
  · rintro ⟨h1, h2⟩
    exact within_least (fun x hx => List.mem_append.1 hx) h1 h2
/-- the law SortLeast, of the plain functions -/
theorem least_law {cs : List Cl} {a b : List ByteArray} (ha : (normB cs a).2 = 0) (hb : (normB cs b).2 = 0) :
    normB cs a.reverse = ((normB cs a).1, 0) ∧ normB cs (normB cs a).1 = ((normB cs a).1, 0) ∧ (lessB cs a b && lessB cs b a) = decide ((normB cs a).1 = (normB cs b).1) := by
  obtain ⟨h0, la, ka, ea⟩ := norm_ok ha
  obtain ⟨_, lb, kb, eb⟩ := norm_ok hb
  have hR := classes_right h0
  rw [ea, eb]
  refine ⟨?_, ?_, ?_⟩
  · rw [norm_of h0 (by rw [List.length_reverse]; exact la) (known_iff.2 fun x hx => known_iff.1 ka x (List.mem_reverse.1 hx))]
    rw [least_congr (fun x => List.mem_reverse)]
  · rw [norm_of h0 (Nat.le_trans least_len la) (least_known ka), least_idem]
  · unfold lessB
    rw [decide_eq_true h0]
    simp only [Bool.true_and, known_app, ka, kb]
    exact least_same hR ka kb
end Go.Proofs.YthfomoigaoffgaaGreat.O
namespace Go.Proofs.YthfomoigaoffgaaGreat.O
set_option linter.unusedSimpArgs false
set_option linter.unusedVariables false
open Go Go.Proofs.YthfomoigaoffgaaGreat.Ix

/-- the index of a class -/
def cidx (cs : List Cl) (a : ByteArray) : Int := idxP (fun c : Cl => c.1 == a) cs 0
theorem cidx_cases (cs : List Cl) (a : ByteArray) : cidx cs a = -1 ∧ (∀ c ∈ cs, c.1 ≠ a) ∨ ∃ k, ∃ h : k < cs.length, cidx cs a = (k : Int) ∧ (cs[k]'h).1 = a ∧ ∀ j (hj : j < k), (cs[j]'(Nat.lt_trans hj h)).1 ≠ a := by
  rcases idxP_range (fun c : Cl => c.1 == a) cs 0 with e | ⟨k, hk, e, h1, h2⟩
  · refine .inl ⟨e, fun c hc he => ?_⟩
    have h := idxP_any (fun c : Cl => c.1 == a) cs 0
    rw [e, decide_eq_false (by decide)] at h
    have := List.any_eq_false.1 h.symm c hc
    exact this ((beq_iff _ _).2 he)
  · refine .inr ⟨k, hk, by rw [← Nat.zero_add k]; exact e, (beq_iff _ _).1 h1, fun j hj he => ?_⟩
    have := h2 j hj
    rw [(beq_iff _ _).2 he] at this
    exact absurd this (by decide)
theorem cidx_has (cs : List Cl) (a : ByteArray) : decide (0 ≤ cidx cs a) = has cs a := idxP_any _ cs 0
theorem cidx_met (cs : List Cl) (a : ByteArray) (i : Nat) : ((cs.take i).map (·.1)).contains a = (decide (0 ≤ cidx cs a) && decide (cidx cs a < (i : Int))) := by
  rw [Bool.eq_iff_iff, List.contains_iff_mem, List.mem_map, Bool.and_eq_true, decide_eq_true_eq, decide_eq_true_eq]
  rcases cidx_cases cs a with ⟨e, h⟩ | ⟨k, hk, e, h1, h2⟩
  · rw [e]
    constructor
    · rintro ⟨c, hc, hc2⟩
      exact absurd hc2 (h c (List.mem_of_mem_take hc))
    · rintro ⟨h0, _⟩
      exact absurd h0 (by decide)
  · rw [e]
    constructor
    · rintro ⟨c, hc, hc2⟩
      obtain ⟨j, hj, rfl⟩ := List.mem_iff_getElem.1 hc
      rw [List.length_take] at hj
      rw [List.getElem_take] at hc2
      refine ⟨by omega, ?_⟩
      by_cases hjk : j < k
      · exact absurd hc2 (h2 j hjk)
      · omega
    · rintro ⟨_, h3⟩
      exact ⟨cs[k]'hk, List.mem_iff_getElem.2 ⟨k, by rw [List.length_take]; omega, by rw [List.getElem_take]⟩, h1⟩
theorem cidx_dup (cs : List Cl) (i : Nat) (hi : i < cs.length) : ((cs.take i).map (·.1)).contains (cs[i]'hi).1 = !(cidx cs (cs[i]'hi).1 == (i : Int)) := by
  rw [cidx_met]
  rcases cidx_cases cs (cs[i]'hi).1 with ⟨e, h⟩ | ⟨k, hk, e, h1, h2⟩
  · exact absurd rfl (h _ (List.getElem_mem hi))
  · rw [e, Bool.eq_iff_iff, Bool.and_eq_true, decide_eq_true_eq, decide_eq_true_eq, Bool.not_eq_true', beq_eq_false_iff_ne]
    by_cases hki : k ≤ i
    · omega
    · exact absurd rfl (h2 i (by omega))

/-! ### above -/
def markS (cs : List Cl) (out : List Bool) (l : List ByteArray) : List Bool := l.foldl (fun o s => o.set (cidx cs s).toNat true) out
def abR (cs : List Cl) : Nat → List Bool → List Bool
  | 0, out => out
  | k + 1, out => abR cs k (if out[k]?.getD false then markS cs out ((cs[k]?.map (·.2)).getD []) else out)
theorem markS_len (cs : List Cl) : ∀ (l : List ByteArray) (out : List Bool), (markS cs out l).length = out.length
  | [], _ => rfl
  | s :: r, out => by
    show (markS cs (out.set _ true) r).length = _
    rw [markS_len cs r, List.length_set]
theorem abR_len (cs : List Cl) : ∀ (k : Nat) (out : List Bool), (abR cs k out).length = out.length
  | 0, _ => rfl
  | k + 1, out => by
    rw [abR, abR_len cs k]
    split
    · exact markS_len ..
    · rfl
theorem markS_get (cs : List Cl) : ∀ (l : List ByteArray) (out : List Bool) (j : Nat), j < out.length → ((markS cs out l)[j]? = some true ↔ out[j]? = some true ∨ ∃ s ∈ l, (cidx cs s).toNat = j)
  | [], out, j, hj => by simp [markS]
  | s :: r, out, j, hj => by
    show ((markS cs (out.set _ true) r)[j]? = some true ↔ _)
    rw [markS_get cs r _ j (by rw [List.length_set]; exact hj), List.getElem?_set]
    constructor
    · rintro (h | ⟨x, hx, e⟩)
      · by_cases e : (cidx cs s).toNat = j
        · exact .inr ⟨s, List.mem_cons_self .., e⟩
        · rw [if_neg e] at h
          exact .inl h
      · exact .inr ⟨x, List.mem_cons_of_mem _ hx, e⟩
    · rintro (h | ⟨x, hx, e⟩)
      · by_cases e : (cidx cs s).toNat = j
        · rw [if_pos e, if_pos (by omega)]; exact .inl rfl
        · rw [if_neg e]; exact .inl h
      · rcases List.mem_cons.1 hx with rfl | hx
        · rw [if_pos e, if_pos (by omega)]; exact .inl rfl
        · exact .inr ⟨x, hx, e⟩

section
variable {cs : List Cl} (hR : Right [] cs)
include hR
theorem cidx_at {i : Nat} (hi : i < cs.length) : cidx cs (cs[i]'hi).1 = (i : Int) := by
  rcases cidx_cases cs (cs[i]'hi).1 with ⟨e, h⟩ | ⟨k, hk, e, h1, h2⟩
  · exact absurd rfl (h _ (List.getElem_mem hi))
  · rw [e, names_inj hR hk hi h1]
/-- the classes above class a: marked -/
structure AbInv (cs : List Cl) (a k : Nat) (out : List Bool) : Prop where
  len : out.length = cs.length
  self : out[a]? = some true
  sound : ∀ j (hj : j < cs.length), out[j]? = some true → ∃ ha : a < cs.length, Reach cs (cs[a]'ha).1 (cs[j]'hj).1
  closed : ∀ j (hj : j < cs.length), k ≤ j → out[j]? = some true → ∀ s ∈ (cs[j]'hj).2, ∃ q, ∃ hq : q < cs.length, (cs[q]'hq).1 = s ∧ out[q]? = some true
theorem abR_inv (a : Nat) : ∀ (k : Nat) (out : List Bool), k ≤ cs.length → AbInv cs a k out → AbInv cs a 0 (abR cs k out)
  | 0, out, _, h => h
  | k + 1, out, hk, h => by
    rw [abR]
    refine abR_inv a k _ (by omega) ?_
    have hkl : k < cs.length := by omega
    have hsup : ((cs[k]?.map (·.2)).getD []) = (cs[k]'hkl).2 := by rw [List.getElem?_eq_getElem hkl]; rfl
    rw [hsup]
    have hkb : ∃ b, out[k]? = some b := ⟨_, List.getElem?_eq_getElem (by rw [h.len]; exact hkl)⟩
    obtain ⟨b, hb⟩ := hkb
    rw [hb]
    cases b with
    | false =>
      show AbInv cs a k out
      refine ⟨h.len, h.self, h.sound, fun j hj hkj hjt s hs => ?_⟩
      by_cases e : j = k
      · subst e; rw [hb] at hjt; cases hjt
      · exact h.closed j hj (by omega) hjt s hs
    | true =>
      show AbInv cs a k (markS cs out (cs[k]'hkl).2)
      have hidx : ∀ s ∈ (cs[k]'hkl).2, ∃ q, ∃ hq : q < cs.length, q < k ∧ (cs[q]'hq).1 = s ∧ (cidx cs s).toNat = q := fun s hs => by
        rcases hR.sup k hkl s hs with h1 | ⟨q, hq, hlt, e3⟩
        · exact absurd h1 List.not_mem_nil
        · refine ⟨q, hq, hlt, e3, ?_⟩
          rw [← e3, cidx_at hR hq]
          omega
      have hg := fun j (hj : j < cs.length) => markS_get cs (cs[k]'hkl).2 out j (by rw [h.len]; exact hj)
      have hal : a < cs.length := by
        have := (List.getElem?_eq_some_iff.1 h.self).1
        rw [h.len] at this
        exact this
      refine ⟨by rw [markS_len, h.len], (hg a hal).2 (.inl h.self), fun j hj hjt => ?_, fun j hj hkj hjt s hs => ?_⟩
      · rcases (hg j hj).1 hjt with h1 | ⟨s, hs, e⟩
        · exact h.sound j hj h1
        · obtain ⟨q, hq, _, e2, e3⟩ := hidx s hs
          obtain ⟨ha, hr⟩ := h.sound k hkl hb
          refine ⟨ha, ?_⟩
          have : q = j := by omega
          subst this
          refine hr.step ?_
          rw [sups_at hR hkl, e2]
          exact hs
      · by_cases e : j = k
        · subst e
          obtain ⟨q, hq, _, e2, e3⟩ := hidx s hs
          exact ⟨q, hq, e2, (hg q hq).2 (.inr ⟨s, hs, e3⟩)⟩
        · rcases (hg j hj).1 hjt with h1 | ⟨s', hs', e'⟩
          · obtain ⟨q, hq, e2, e3⟩ := h.closed j hj (by omega) h1 s hs
            exact ⟨q, hq, e2, (hg q hq).2 (.inl e3)⟩
          · obtain ⟨q, hq, hlt, _, e3⟩ := hidx s' hs'
            omega
theorem abR_below {a j : Nat} (ha : a < cs.length) (hj : j < cs.length) : (abR cs (a + 1) ((List.replicate cs.length false).set a true))[j]? = some (belowB cs (cs[a]'ha).1 (cs[j]'hj).1) := by
  have h0 : AbInv cs a (a + 1) ((List.replicate cs.length false).set a true) := by
    have hg : ∀ j, j < cs.length → (((List.replicate cs.length false).set a true)[j]? = some true ↔ j = a) := fun j hj => by
      rw [List.getElem?_set]
      by_cases e : a = j
      · rw [if_pos e, if_pos (by simpa using ha)]; simp [e]
      · rw [if_neg e, List.getElem?_replicate, if_pos hj]
        simp [Ne.symm e]
    refine ⟨by simp, (hg a ha).2 rfl, fun j hj hjt => ⟨ha, ?_⟩, fun j hj hkj hjt => ?_⟩
    · have := (hg j hj).1 hjt
      subst this
      exact .refl
    · have := (hg j hj).1 hjt
      omega
  have h1 := abR_inv hR a (a + 1) _ (by omega) h0
  generalize abR cs (a + 1) ((List.replicate cs.length false).set a true) = out at h1
  have hb : ∃ b, out[j]? = some b := ⟨_, List.getElem?_eq_getElem (by rw [h1.len]; exact hj)⟩
  obtain ⟨b, hb⟩ := hb
  rw [hb]
  congr 1
  rw [Bool.eq_iff_iff, below_iff]
  constructor
  · rintro rfl
    obtain ⟨_, h⟩ := h1.sound j hj hb
    exact h
  · intro hr
    have key : ∀ x, Reach cs (cs[a]'ha).1 x → ∃ q, ∃ hq : q < cs.length, (cs[q]'hq).1 = x ∧ out[q]? = some true := by
      intro x hx
      induction hx with
      | refl => exact ⟨a, ha, rfl, h1.self⟩
      | step _ hs ih =>
        obtain ⟨q, hq, e, hm⟩ := ih
        rw [← e, sups_at hR hq] at hs
        exact h1.closed q hq (Nat.zero_le _) hm _ hs
    obtain ⟨q, hq, e, hm⟩ := key _ hr
    have := names_inj hR hq hj e
    subst this
    rw [hb] at hm
    injection hm
end

/-! ### put, least -/
def putR (s : ByteArray) : Bool → List ByteArray → List ByteArray
  | done, [] => if done then [] else [s]
  | done, x :: r => (if !done && !(less x s) then (if x == s then [x] else [s, x]) else [x]) ++ putR s (done || !(less x s)) r
theorem putR_done (s : ByteArray) : ∀ l, putR s true l = l
  | [] => rfl
  | x :: r => by rw [putR, Bool.true_or, putR_done s r]; rfl
theorem putR_eq (s : ByteArray) : ∀ l, putR s false l = put l s
  | [] => rfl
  | x :: r => by
    rw [putR, put]
    cases h : less x s with
    | true => rw [if_pos rfl]; simp [putR_eq s r]
    | false =>
      simp only [Bool.not_false, Bool.and_self, Bool.or_true, if_true, putR_done]
      cases hb : (x == s) with
      | true => simp
      | false => simp
def dropB (cs : List Cl) (s : List ByteArray) (x : ByteArray) : Bool := s.any (fun d => d != x && belowB cs d x)
def leastR (cs : List Cl) (s : List ByteArray) : List ByteArray → List ByteArray → List ByteArray
  | out, [] => out
  | out, x :: r => leastR cs s (if dropB cs s x then out else put out x) r
theorem leastR_spec (cs : List Cl) (s : List ByteArray) : ∀ (l out : List ByteArray), Asc out → Asc (leastR cs s out l) ∧ ∀ x, x ∈ leastR cs s out l ↔ x ∈ out ∨ (x ∈ l ∧ dropB cs s x = false)
  | [], out, h => ⟨h, fun x => by simp [leastR]⟩
  | y :: r, out, h => by
    rw [leastR]
    cases hd : dropB cs s y with
    | true =>
      rw [if_pos rfl]
      obtain ⟨h1, h2⟩ := leastR_spec cs s r out h
      refine ⟨h1, fun x => (h2 x).trans ?_⟩
      constructor
      · rintro (h | ⟨h, k⟩)
        · exact .inl h
        · exact .inr ⟨List.mem_cons_of_mem _ h, k⟩
      · rintro (h | ⟨h, k⟩)
        · exact .inl h
        · rcases List.mem_cons.1 h with rfl | h
          · rw [hd] at k; cases k
          · exact .inr ⟨h, k⟩
    | false =>
      rw [if_neg (by decide)]
      obtain ⟨h1, h2⟩ := leastR_spec cs s r (put out y) (put_asc _ _ h)
      refine ⟨h1, fun x => (h2 x).trans ?_⟩
      rw [put_mem]
      constructor
      · rintro ((rfl | h) | ⟨h, k⟩)
        · exact .inr ⟨List.mem_cons_self .., hd⟩
        · exact .inl h
        · exact .inr ⟨List.mem_cons_of_mem _ h, k⟩
      · rintro (h | ⟨h, k⟩)
        · exact .inl (.inr h)
        · rcases List.mem_cons.1 h with rfl | h
          · exact .inl (.inl rfl)
          · exact .inr ⟨h, k⟩
theorem leastR_eq (cs : List Cl) (s : List ByteArray) : leastR cs s [] s = leastB cs s := by
  obtain ⟨h1, h2⟩ := leastR_spec cs s s [] List.Pairwise.nil
  refine least_ext h1 (fun x => (h2 x).trans ?_)
  constructor
  · rintro (h | ⟨h, k⟩)
    · exact absurd h List.not_mem_nil
    · refine ⟨h, fun d hd hne => ?_⟩
      have := List.any_eq_false.1 k d hd
      cases hb : belowB cs d x with
      | false => rfl
      | true => rw [hb, Bool.and_true] at this; exact absurd (bne_iff_ne.2 hne) this
  · rintro ⟨h, k⟩
    refine .inr ⟨h, List.any_eq_false.2 fun d hd hb => ?_⟩
    rw [Bool.and_eq_true, bne_iff_ne] at hb
    rw [k d hd hb.1] at hb
    exact absurd hb.2 (by decide)
/-- the error of sorts -/
def sortsE (cs : List Cl) : List (List ByteArray) → Int
  | [] => 0
  | s :: r => if 20 < s.length then 5 else if knownB cs s then sortsE cs r else 9
def sortsA (cs : List Cl) (l : List (List ByteArray)) : Int := if classesE cs ≠ 0 then classesE cs else sortsE cs l
theorem norm_ref (cs : List Cl) (s : List ByteArray) : normB cs s = if sortsA cs [s] ≠ 0 then ([], sortsA cs [s]) else (leastB cs s, 0) := by
  unfold normB sortsA sortsE sortsE
  by_cases h : classesE cs = 0
  · simp only [h, ne_eq, not_true_eq_false, if_false]
    by_cases h2 : 20 < s.length
    · simp [h2]
    · cases h3 : knownB cs s <;> simp [h2, h3]
  · simp [h]
theorem meet_ref (cs : List Cl) (a b : List ByteArray) : meetB cs a b = if sortsA cs [a, b] ≠ 0 then ([], sortsA cs [a, b]) else if 20 < (leastB cs (a ++ b)).length then ([], 5) else (leastB cs (a ++ b), 0) := by
  unfold meetB normB sortsA
  simp only [sortsE]
  by_cases h : classesE cs = 0
  · simp only [h, ne_eq, not_true_eq_false, if_false]
    by_cases h2 : 20 < a.length
    · simp [h2]
    · cases h3 : knownB cs a with
      | false => simp [h2, h3]
      | true =>
        by_cases h4 : 20 < b.length
        · simp [h2, h3, h4]
        · cases h5 : knownB cs b <;> simp [h2, h3, h4, h5]
  · simp [h]
end Go.Proofs.YthfomoigaoffgaaGreat.O
