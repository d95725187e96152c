/- A region of sixteen operations five of which make memory, in whatever order: what stands behind all of them.  It names no program. -/
import Derived.Test.YtggfjfmgclcnlaaK
import Derived.RegionTactic
import Derived.Test.YtggfjfmgclcnlaaVf
namespace Go.Proofs.Ytggfjfmgclcnlaa.K
set_option linter.unusedSimpArgs false
set_option linter.unusedVariables false
open Go Go.RowKit

def lst5 (b1 b2 b3 b4 b5 : Bool) : Array Bool := #[true, b1, true, true, b2, true, true, b3, true, true, b4, b5, true, false, false, false]
def rdy5 (b1 b2 b3 b4 b5 : Bool) : List Nat := (if b1 = true then [] else [1]) ++ ((if b2 = true then [] else [4]) ++ ((if b3 = true then [] else [7]) ++ ((if b4 = true then [] else [10]) ++ ((if b5 = true then [] else [11]) ++ (if (b1 && b2 && b3 && b4 && b5) = true then [13] else [])))))
def blkOf : Value → Option Nat
  | .map r => r
  | .slice (some a) _ _ => some a.block
  | _ => none
def upd {α : Type} (f : Nat → α) (i : Nat) (v : α) (j : Nat) : α := if j = i then v else f j
structure Inv5 (PP : Nat → Value → World → Prop) (w0 W : World) (b : Nat → Bool) (X : Nat → Value) : Prop where
  bel : Below w0.heap.size w0 W
  p : ∀ i, b i = true → PP i (X i) W
  l : ∀ i k, blkOf (X i) = some k → w0.heap.size ≤ k ∧ k < W.heap.size
  d : ∀ i j, i ≠ j → ∀ k, blkOf (X i) = some k → blkOf (X j) ≠ some k
theorem Inv5.put {PP : Nat → Value → World → Prop} {w0 W W' : World} {b : Nat → Bool} {X : Nat → Value} (h : Inv5 PP w0 W b X) (hmono : ∀ i v W W', PP i v W → Below W.heap.size W W' → PP i v W') (i : Nat) (v : Value) (hb : Below W.heap.size W W') (hp : PP i v W') (hl : ∀ k, blkOf v = some k → W.heap.size ≤ k ∧ k < W'.heap.size) : Inv5 PP w0 W' (upd b i true) (upd X i v) := by
  refine ⟨h.bel.trans (hb.mono h.bel.size), fun j hj => ?_, fun j k hk => ?_, fun j m hjm k hk => ?_⟩
  · unfold upd at hj ⊢
    by_cases e : j = i
    · subst e; rw [if_pos rfl]; exact hp
    · rw [if_neg e] at hj ⊢
      exact hmono _ _ _ _ (h.p j hj) hb
  · unfold upd at hk
    have := h.bel.size
    have := hb.size
    by_cases e : j = i
    · rw [if_pos e] at hk
      have := hl k hk
      omega
    · rw [if_neg e] at hk
      have := h.l j k hk
      omega
  · unfold upd at hk ⊢
    by_cases e : j = i
    · rw [if_pos e] at hk
      rw [if_neg (fun e2 => hjm (e.trans e2.symm))]
      intro hm
      have := hl k hk
      have := h.l m k hm
      omega
    · rw [if_neg e] at hk
      by_cases e2 : m = i
      · rw [if_pos e2]
        intro hm
        have := hl k hm
        have := h.l j k hk
        omega
      · rw [if_neg e2]
        exact h.d j m hjm k hk
theorem bag5 {P : Program} {ops : Array Oper} {Q : Exit → Act → World → Prop} {F : Value → Value → Value → Value → Value → Act} {PP : Nat → Value → World → Prop} {w0 : World} (hr : ∀ b1 b2 b3 b4 b5, Region.ready .any ops (lst5 b1 b2 b3 b4 b5) = rdy5 b1 b2 b3 b4 b5)
    (hmono : ∀ i v W W', PP i v W → Below W.heap.size W W' → PP i v W')
    (h1 : ∀ (X : Nat → Value) (W : World), Below w0.heap.size w0 W → ∀ K : Act → World → Prop, (∀ v W', Below W.heap.size W W' → PP 0 v W' → (∀ k, blkOf v = some k → W.heap.size ≤ k ∧ k < W'.heap.size) → K (F v (X 1) (X 2) (X 3) (X 4)) W') → wpOp P ops Q 1 K (F (X 0) (X 1) (X 2) (X 3) (X 4)) W)
    (h2 : ∀ (X : Nat → Value) (W : World), Below w0.heap.size w0 W → ∀ K : Act → World → Prop, (∀ v W', Below W.heap.size W W' → PP 1 v W' → (∀ k, blkOf v = some k → W.heap.size ≤ k ∧ k < W'.heap.size) → K (F (X 0) v (X 2) (X 3) (X 4)) W') → wpOp P ops Q 4 K (F (X 0) (X 1) (X 2) (X 3) (X 4)) W)
    (h3 : ∀ (X : Nat → Value) (W : World), Below w0.heap.size w0 W → ∀ K : Act → World → Prop, (∀ v W', Below W.heap.size W W' → PP 2 v W' → (∀ k, blkOf v = some k → W.heap.size ≤ k ∧ k < W'.heap.size) → K (F (X 0) (X 1) v (X 3) (X 4)) W') → wpOp P ops Q 7 K (F (X 0) (X 1) (X 2) (X 3) (X 4)) W)
    (h4 : ∀ (X : Nat → Value) (W : World), Below w0.heap.size w0 W → ∀ K : Act → World → Prop, (∀ v W', Below W.heap.size W W' → PP 3 v W' → (∀ k, blkOf v = some k → W.heap.size ≤ k ∧ k < W'.heap.size) → K (F (X 0) (X 1) (X 2) v (X 4)) W') → wpOp P ops Q 10 K (F (X 0) (X 1) (X 2) (X 3) (X 4)) W)
    (h5 : ∀ (X : Nat → Value) (W : World), Below w0.heap.size w0 W → ∀ K : Act → World → Prop, (∀ v W', Below W.heap.size W W' → PP 4 v W' → (∀ k, blkOf v = some k → W.heap.size ≤ k ∧ k < W'.heap.size) → K (F (X 0) (X 1) (X 2) (X 3) v) W') → wpOp P ops Q 11 K (F (X 0) (X 1) (X 2) (X 3) (X 4)) W)
    (hfin : ∀ (X : Nat → Value) (W : World), Below w0.heap.size w0 W → (∀ i, i < 5 → PP i (X i) W) → (∀ i k, blkOf (X i) = some k → w0.heap.size ≤ k ∧ k < W.heap.size) → (∀ i j, i ≠ j → ∀ k, blkOf (X i) = some k → blkOf (X j) ≠ some k) → wpAny P .any ops Q 3 (lst5 true true true true true) (F (X 0) (X 1) (X 2) (X 3) (X 4)) W) :
    ∀ (f : Nat) (b : Nat → Bool) (X : Nat → Value) (W : World), f + (b 0).toNat + (b 1).toNat + (b 2).toNat + (b 3).toNat + (b 4).toNat = 5 → Inv5 PP w0 W b X → wpAny P .any ops Q (f + 3) (lst5 (b 0) (b 1) (b 2) (b 3) (b 4)) (F (X 0) (X 1) (X 2) (X 3) (X 4)) W
  | 0, b, X, W, hc, hI => by
    have t := fun (x : Bool) => Bool.toNat_le x
    have t0 := t (b 0); have t1 := t (b 1); have t2 := t (b 2); have t3 := t (b 3); have t4 := t (b 4)
    have g : ∀ x : Bool, x.toNat = 1 → x = true := fun x h => by cases x; cases h; rfl
    have e0 := g (b 0) (by omega); have e1 := g (b 1) (by omega); have e2 := g (b 2) (by omega); have e3 := g (b 3) (by omega); have e4 := g (b 4) (by omega)
    rw [e0, e1, e2, e3, e4]
    refine hfin X W hI.bel (fun i hi => hI.p i ?_) hI.l hI.d
    match i, hi with
    | 0, _ => exact e0
    | 1, _ => exact e1
    | 2, _ => exact e2
    | 3, _ => exact e3
    | 4, _ => exact e4
  | f + 1, b, X, W, hc, hI => by
    have hall : (b 0 && b 1 && b 2 && b 3 && b 4) = false := by
      cases h : (b 0 && b 1 && b 2 && b 3 && b 4) with
      | false => rfl
      | true =>
        simp only [Bool.and_eq_true] at h
        obtain ⟨⟨⟨⟨e0, e1⟩, e2⟩, e3⟩, e4⟩ := h
        rw [e0, e1, e2, e3, e4] at hc
        simp only [Bool.toNat_true] at hc
        omega
    show wpAny P .any ops Q ((f + 3) + 1) _ _ _
    refine wpAny_all (hr _ _ _ _ _) (fun h0 => ?_) (fun i hi => ?_)
    · unfold rdy5 at h0
      simp only [List.append_eq_nil_iff] at h0
      obtain ⟨g0, g1, g2, g3, g4, _⟩ := h0
      have q : ∀ (x : Bool) (n : Nat), (if x = true then [] else [n]) = ([] : List Nat) → x = true := fun x n h => by cases x with | true => rfl | false => rw [if_neg (by decide)] at h; cases h
      rw [q _ _ g0, q _ _ g1, q _ _ g2, q _ _ g3, q _ _ g4] at hall
      exact absurd hall (by decide)
    · unfold rdy5 at hi
      simp only [List.mem_append] at hi
      have q : ∀ (x : Bool) (n : Nat), i ∈ (if x = true then [] else [n]) → x = false ∧ i = n := fun x n h => by cases x with | true => rw [if_pos rfl] at h; cases h | false => rw [if_neg (by decide)] at h; exact ⟨rfl, List.mem_singleton.1 h⟩
      rcases hi with hi | hi | hi | hi | hi | hi
      · obtain ⟨hb, rfl⟩ := q _ _ hi
        refine h1 X W hI.bel _ (fun v W' hbw hp hl => ?_)
        have := bag5 hr hmono h1 h2 h3 h4 h5 hfin f (upd b 0 true) (upd X 0 v) W' (by
          simp only [upd]
          rw [hb] at hc
          simp only [Bool.toNat_false] at hc
          simp
          omega) (hI.put hmono 0 v hbw hp hl)
        exact this
      · obtain ⟨hb, rfl⟩ := q _ _ hi
        refine h2 X W hI.bel _ (fun v W' hbw hp hl => ?_)
        have := bag5 hr hmono h1 h2 h3 h4 h5 hfin f (upd b 1 true) (upd X 1 v) W' (by
          simp only [upd]
          rw [hb] at hc
          simp only [Bool.toNat_false] at hc
          simp
          omega) (hI.put hmono 1 v hbw hp hl)
        exact this
      · obtain ⟨hb, rfl⟩ := q _ _ hi
        refine h3 X W hI.bel _ (fun v W' hbw hp hl => ?_)
        have := bag5 hr hmono h1 h2 h3 h4 h5 hfin f (upd b 2 true) (upd X 2 v) W' (by
          simp only [upd]
          rw [hb] at hc
          simp only [Bool.toNat_false] at hc
          simp
          omega) (hI.put hmono 2 v hbw hp hl)
        exact this
      · obtain ⟨hb, rfl⟩ := q _ _ hi
        refine h4 X W hI.bel _ (fun v W' hbw hp hl => ?_)
        have := bag5 hr hmono h1 h2 h3 h4 h5 hfin f (upd b 3 true) (upd X 3 v) W' (by
          simp only [upd]
          rw [hb] at hc
          simp only [Bool.toNat_false] at hc
          simp
          omega) (hI.put hmono 3 v hbw hp hl)
        exact this
      · obtain ⟨hb, rfl⟩ := q _ _ hi
        refine h5 X W hI.bel _ (fun v W' hbw hp hl => ?_)
        have := bag5 hr hmono h1 h2 h3 h4 h5 hfin f (upd b 4 true) (upd X 4 v) W' (by
          simp only [upd]
          rw [hb] at hc
          simp only [Bool.toNat_false] at hc
          simp
          omega) (hI.put hmono 4 v hbw hp hl)
        exact this
      · rw [hall, if_neg (by decide)] at hi
        cases hi
/-- what the five leave in a frame -/
def F5 (a0 : Act) (x1 x2 x3 x4 x5 : Value) : Act := ((((a0.put (some 33) x1).put (some 36) x2).put (some 39) x3).put (some 42) x4).put (some 43) x5
theorem bag5' {P : Program} {ops : Array Oper} {Q : Exit → Act → World → Prop} {PP : Nat → Value → World → Prop} {w0 : World} {a0 : Act} {l0 : Array Bool} (hl : l0 = lst5 false false false false false) (ha : a0 = F5 a0 undef undef undef undef undef) (hr : ∀ b1 b2 b3 b4 b5, Region.ready .any ops (lst5 b1 b2 b3 b4 b5) = rdy5 b1 b2 b3 b4 b5)
    (hmono : ∀ i v W W', PP i v W → Below W.heap.size W W' → PP i v W')
    (h1 : ∀ (X : Nat → Value) (W : World), Below w0.heap.size w0 W → ∀ K : Act → World → Prop, (∀ v W', Below W.heap.size W W' → PP 0 v W' → (∀ k, blkOf v = some k → W.heap.size ≤ k ∧ k < W'.heap.size) → K (F5 a0 v (X 1) (X 2) (X 3) (X 4)) W') → wpOp P ops Q 1 K (F5 a0 (X 0) (X 1) (X 2) (X 3) (X 4)) W)
    (h2 : ∀ (X : Nat → Value) (W : World), Below w0.heap.size w0 W → ∀ K : Act → World → Prop, (∀ v W', Below W.heap.size W W' → PP 1 v W' → (∀ k, blkOf v = some k → W.heap.size ≤ k ∧ k < W'.heap.size) → K (F5 a0 (X 0) v (X 2) (X 3) (X 4)) W') → wpOp P ops Q 4 K (F5 a0 (X 0) (X 1) (X 2) (X 3) (X 4)) W)
    (h3 : ∀ (X : Nat → Value) (W : World), Below w0.heap.size w0 W → ∀ K : Act → World → Prop, (∀ v W', Below W.heap.size W W' → PP 2 v W' → (∀ k, blkOf v = some k → W.heap.size ≤ k ∧ k < W'.heap.size) → K (F5 a0 (X 0) (X 1) v (X 3) (X 4)) W') → wpOp P ops Q 7 K (F5 a0 (X 0) (X 1) (X 2) (X 3) (X 4)) W)
    (h4 : ∀ (X : Nat → Value) (W : World), Below w0.heap.size w0 W → ∀ K : Act → World → Prop, (∀ v W', Below W.heap.size W W' → PP 3 v W' → (∀ k, blkOf v = some k → W.heap.size ≤ k ∧ k < W'.heap.size) → K (F5 a0 (X 0) (X 1) (X 2) v (X 4)) W') → wpOp P ops Q 10 K (F5 a0 (X 0) (X 1) (X 2) (X 3) (X 4)) W)
    (h5 : ∀ (X : Nat → Value) (W : World), Below w0.heap.size w0 W → ∀ K : Act → World → Prop, (∀ v W', Below W.heap.size W W' → PP 4 v W' → (∀ k, blkOf v = some k → W.heap.size ≤ k ∧ k < W'.heap.size) → K (F5 a0 (X 0) (X 1) (X 2) (X 3) v) W') → wpOp P ops Q 11 K (F5 a0 (X 0) (X 1) (X 2) (X 3) (X 4)) W)
    (hfin : ∀ (X : Nat → Value) (W : World), Below w0.heap.size w0 W → (∀ i, i < 5 → PP i (X i) W) → (∀ i k, blkOf (X i) = some k → w0.heap.size ≤ k ∧ k < W.heap.size) → (∀ i j, i ≠ j → ∀ k, blkOf (X i) = some k → blkOf (X j) ≠ some k) → wpAny P .any ops Q 3 (lst5 true true true true true) (F5 a0 (X 0) (X 1) (X 2) (X 3) (X 4)) W) : wpAny P .any ops Q 8 l0 a0 w0 := by
  subst hl
  have hu : blkOf undef = none := rfl
  have hI : Inv5 PP w0 w0 (fun _ => false) (fun _ => undef) := ⟨Below.refl _ _, fun i h => absurd (show false = true from h) (by decide), fun i k h => absurd (hu.symm.trans h) (by simp), fun i j _ k h => absurd (hu.symm.trans h) (by simp)⟩
  have := bag5 (F := F5 a0) hr hmono h1 h2 h3 h4 h5 hfin 5 (fun _ => false) (fun _ => undef) w0 rfl hI
  rw [← ha] at this
  exact this
/-- an operation that yields whatever the world, taken first -/
def nth5 {α : Type} : List α → Nat → Option α
  | [], _ => none
  | x :: _, 0 => some x
  | _ :: l, n + 1 => nth5 l n
theorem nth5_list {α : Type} : ∀ (l : List α) (n : Nat), nth5 l n = l[n]?
  | [], _ => by simp [nth5]
  | x :: l, 0 => by simp [nth5]
  | x :: l, n + 1 => by simp [nth5, nth5_list l n]
theorem take5 {P : Program} {ops : Array Oper} {Q : Exit → Act → World → Prop} {md : Region.Mode} {i : Nat} {oi : Oper} {v : Value} {fuel : Nat} {listed : Array Bool} {a : Act} {w : World} (hi : nth5 ops.toList i = some oi)
    (hs : Region.noSelect ops = true) (hf : Region.free md ops listed i = true) (hr : (Region.ready md ops listed).contains i = true)
    (hQ : ∀ c a w, Q (.panic c) (a.put oi.dst v) w → Q (.panic c) a w) (hw : Region.wanted oi (yielded ops a.tmps) = true) (hy : ∀ w, (execOp a.eval oi).run P w = .ok (.value v) w)
    (h : wpAny P md ops Q fuel (listed.setIfInBounds i true) (a.put oi.dst v) w) : wpAny P md ops Q (fuel + 1) listed a w :=
  wpAny_take (by rw [nth5_list, Array.getElem?_toList] at hi; exact hi) hs hf hr hQ (Or.inl ⟨hw, hy⟩) h
end Go.Proofs.Ytggfjfmgclcnlaa.K
namespace Go.Proofs.Ytggfjfmgclcnlaa.Zb
open Go Go.RowKit Go.Shelf Go.Proofs.Ytggfjfmgclcnlaa.K Go.Proofs.Ytggfjfmgclcnlaa.G Go.Proofs.Ytggfjfmgclcnlaa.Z
set_option linter.unusedSimpArgs false
set_option linter.unusedVariables false

theorem occF_app (x : Int) : ∀ (a b : List Cls) (i : Nat), occF x (a ++ b) i = occF x a i ++ occF x b (i + a.length)
  | [], b, i => rfl
  | c :: a, b, i => by
    rw [List.cons_append, occF, occF, occF_app x a b, List.append_assoc, List.length_cons]
    congr 3
    omega
theorem occ_last (y : Int) (L : List Cls) (c : Cls) : occF y (L ++ [c]) 0 = occF y L 0 ++ List.replicate (c.count y) L.length := by
  rw [occF_app, occF, occF, List.append_nil, Nat.zero_add]
theorem occ_nil (y : Int) (L : List Cls) : occF y (L ++ [[]]) 0 = occF y L 0 := by rw [occ_last]; simp
theorem occ_step (y : Int) (L : List Cls) (c : Cls) (j : Nat) (hj : j < c.length) : occF y (L ++ [c.take (j + 1)]) 0 = occF y (L ++ [c.take j]) 0 ++ (if y = c[j]'hj then [L.length] else []) := by
  rw [occ_last, occ_last, List.append_assoc]
  congr 1
  rw [← List.take_append_getElem hj, List.count_append]
  by_cases e : y = c[j]'hj
  · rw [if_pos e, ← e, List.count_singleton_self, List.replicate_succ']
  · rw [if_neg e, List.count_singleton]
    have : (c[j]'hj == y) = false := beq_eq_false_iff_ne.2 (fun h => e h.symm)
    rw [this]
    simp
theorem mine_int {base : Nat} {S : Nat → Prop} {w : World} {v : Value} {xs : List Int} (h : Mine kI base S w v xs) : Mine kI base NoB w v xs := by
  obtain ⟨A, cap, e, h1, h2, h3⟩ := h
  refine ⟨A, cap, e, h1, h2, h3.imp id ?_⟩
  rintro ⟨g, o, e1, e2, e3, e4, e5⟩
  exact ⟨g, o, e1, e2, e3, e4, fun j x hj => by
    obtain ⟨cs, hk, hc⟩ := e5 j x hj
    exact ⟨cs, hk, hc⟩⟩
theorem assocI_snoc {x : Int} {u : Value} : ∀ (ps : List (Value × Value)), (∀ e ∈ ps, isI e.1) → assocV eqI (.int .i64 x) ps = none → ∀ t : Int, assocV eqI (.int .i64 t) (ps ++ [(.int .i64 x, u)]) = if t = x then some u else assocV eqI (.int .i64 t) ps
  | [], _, _, t => by
    unfold assocV
    by_cases h : t = x
    · subst h
      simp [eqI]
    · have hf : eqI (.int .i64 t) (.int .i64 x) = false := by simpa [eqI] using h
      rw [if_neg h]
      simp [hf]
  | e :: ps, hk, hn, t => by
    obtain ⟨k, he⟩ := hk e (List.mem_cons_self ..)
    obtain ⟨e1, e2⟩ := e
    dsimp only at he
    subst he
    have hxk : ¬ x = k := fun h => by
      subst h
      unfold assocV at hn
      rw [List.find?_cons] at hn
      dsimp only at hn
      rw [eqI_iff.2 rfl] at hn
      cases hn
    have hf : eqI (.int .i64 x) (.int .i64 k) = false := by simpa [eqI] using hxk
    have hn2 : assocV eqI (.int .i64 x) ps = none := by
      unfold assocV at hn ⊢
      rw [List.find?_cons] at hn
      dsimp only at hn
      rw [hf] at hn
      exact hn
    have ih := assocI_snoc (u := u) ps (fun q hq => hk q (List.mem_cons_of_mem _ hq)) hn2 t
    unfold assocV at ih ⊢
    rw [List.cons_append, List.find?_cons, List.find?_cons]
    dsimp only
    by_cases ht : t = k
    · subst ht
      rw [eqI_iff.2 rfl, if_neg (fun e => hxk e.symm)]
    · have hf2 : eqI (.int .i64 t) (.int .i64 k) = false := by simpa [eqI] using ht
      rw [hf2]
      exact ih
/-- the groups, in rows of one's own -/
def GrpM (base : Nat) (W : World) (mb : Nat) (L : List Cls) : Prop :=
  ∃ (ps : List (Value × Value)) (V : Int → Value), MapIs W mb ps ∧ (∀ e ∈ ps, isI e.1) ∧ (∀ y : Int, (assocV eqI (.int .i64 y) ps).getD (.slice none 0 0) = V y ∧ Mine kI base NoB W (V y) ((occF y L 0).map (fun i : Nat => (i : Int)))) ∧ ∀ (y z : Int) (k : Nat), y ≠ z → (V y).ownBlock = some k → (V z).ownBlock ≠ some k
theorem GrpM.chg {base : Nat} {W W' : World} {mb : Nat} {L : List Cls} {Tt : Nat → Prop} (h : GrpM base W mb L) (hc : Chg Tt W W') (hm : ¬ Tt mb) (hb : ∀ k, Tt k → k < base) : GrpM base W' mb L := by
  obtain ⟨ps, V, h1, h2, h3, h4⟩ := h
  exact ⟨ps, V, h1.chg hc hm, h2, fun y => ⟨(h3 y).1, (h3 y).2.chg hc (fun _ h => h.elim) (fun k e ht => by have := ((h3 y).2.base_le e).1; have := hb k ht; omega)⟩, h4⟩
theorem GrpM.same {base : Nat} {W : World} {mb : Nat} {L L' : List Cls} (h : GrpM base W mb L) (he : ∀ y, occF y L' 0 = occF y L 0) : GrpM base W mb L' := by
  obtain ⟨ps, V, h1, h2, h3, h4⟩ := h
  exact ⟨ps, V, h1, h2, fun y => by rw [he]; exact h3 y, h4⟩
theorem GrpM.grp {base : Nat} {W : World} {mb : Nat} {L : List Cls} (h : GrpM base W mb L) : Grp (fun k => base ≤ k ∧ k < W.heap.size) W mb L := by
  obtain ⟨ps, V, h1, h2, h3, _⟩ := h
  refine ⟨ps, h1, h2, fun y => ?_⟩
  obtain ⟨A, c, e, _, hC⟩ := (h3 y).2.slice_
  refine ⟨A, c, (h3 y).1.trans (by rw [e, List.length_map]), hC.mono (fun k hk => hk.elim False.elim (fun e2 => (h3 y).2.base_le e2))⟩
theorem GrpM.start {base : Nat} {W : World} {mb : Nat} (h : MapIs W mb []) : GrpM base W mb [] :=
  ⟨[], fun _ => .slice none 0 0, h, fun e he => absurd he List.not_mem_nil, fun y => ⟨rfl, Mine.nil ..⟩, fun y z k _ e => by simp [Value.ownBlock] at e⟩
theorem GrpM.push {base : Nat} {W : World} {mb : Nat} {L : List Cls} (h : GrpM base W mb L) (x : Int) (i : Nat) (hbase : base ≤ W.heap.size) (hmb : mb < base) (hlen : ∀ y, (occF y L 0).length ≤ 1000000) :
    ∃ A0 n0 c0 A' n' c' w1 w2, (∀ W' : World, W'.heap[mb]? = W.heap[mb]? → (Instr.lookup 72 (.map (some mb)) (.int .i64 x) false).run Try.prog W' = .ok (.slice A0 n0 c0) W') ∧
      (Builtin.append_ #[44, 44] 44 #[.slice A0 n0 c0, .slice (some ⟨W.heap.size, 0, none⟩) 1 1]).run Try.prog (W.alloc (.cells #[.int .i64 (i : Int)] 3)) = .ok (.slice A' n' c') w1 ∧
      (Instr.mapUpdate 72 (.map (some mb)) (.int .i64 x) (.slice A' n' c')).run Try.prog w1 = .ok () w2 ∧ Chg (fun k => k = mb ∨ base ≤ k) W w2 ∧ (∀ k, k < base → k ≠ mb → w1.heap[k]? = W.heap[k]?) ∧ w1.heap[mb]? = W.heap[mb]? ∧
      ∀ L', (∀ y, occF y L' 0 = occF y L 0 ++ if y = x then [i] else []) → GrpM base w2 mb L' := by
  obtain ⟨ps, V, h1, h2, h3, h4⟩ := h
  obtain ⟨A0, c0, e0, hle0, _⟩ := (h3 x).2.slice_
  have hwa : Below W.heap.size W (W.alloc (.cells #[.int .i64 (i : Int)] 3)) := (Below.refl _ _).alloc (Nat.le_refl _) _
  have hlx := hlen x
  obtain ⟨A', n', c', w1, hrun, hn', hm, hg, ho⟩ := append_own (c := 1) (S := Any) (S' := fun k => k = W.heap.size) Try.underlying44 infoI rfl (by decide) (by decide) (((h3 x).2.below hwa).mono (fun _ h => h.elim)) (one_int (alloc_new W (.cells #[.int .i64 (i : Int)] 3)) rfl)
    (fun k hk => ⟨trivial, fun e => by have := ((h3 x).2.base_le e).2; omega⟩) (by rw [List.length_map]; simp; omega) (Nat.le_trans hbase hwa.size)
  have hgc : Chg (fun k => (V x).ownBlock = some k) W w1 := (Chg.of_fresh hwa).trans (Chg.grown hg (fun k e => .inl e))
  have hmb1 : ¬ (V x).ownBlock = some mb := fun e => by have := ((h3 x).2.base_le e).1; omega
  have m1 := h1.chg hgc hmb1
  have hlk : ∀ W' : World, W'.heap[mb]? = W.heap[mb]? → (Instr.lookup 72 (.map (some mb)) (.int .i64 x) false).run Try.prog W' = .ok (.slice A0 ((occF x L 0).map (fun i : Nat => (i : Int))).length c0) W' := fun W' hW => by
    have := litI_law.lookup (mt := 72) Try.underlying72 (h1.same hW) h2 ⟨x, rfl⟩ (zero_ints W') false
    rw [(h3 x).1, e0] at this
    exact this
  have fin : ∀ (w2 : World) (ps' : List (Value × Value)), MapIs w2 mb ps' → Chg (fun b => b = mb) w1 w2 → (∀ e ∈ ps', isI e.1) → (∀ t : Int, assocV eqI (.int .i64 t) ps' = if t = x then some (.slice A' n' c') else assocV eqI (.int .i64 t) ps) →
      ∀ L', (∀ y, occF y L' 0 = occF y L 0 ++ if y = x then [i] else []) → GrpM base w2 mb L' := fun w2 ps' g1 g2 g3 g4 L' hL => by
    refine ⟨ps', fun y => if y = x then .slice A' n' c' else V y, g1, g3, fun y => ?_, fun y z k hyz hy => ?_⟩
    · rw [g4, hL]
      dsimp only
      by_cases e : y = x
      · subst e
        simp only [if_true]
        refine ⟨rfl, ?_⟩
        rw [List.map_append]
        exact (mine_int hm).chg g2 (fun _ h => h.elim) (fun k hk e2 => by have := (hm.base_le hk).1; omega)
      · simp only [if_neg e, List.append_nil]
        exact ⟨(h3 y).1, ((h3 y).2.chg hgc (fun _ h => h.elim) (fun k hk e2 => h4 y x k e hk e2)).chg g2 (fun _ h => h.elim) (fun k hk e2 => by have := ((h3 y).2.base_le hk).1; omega)⟩
    · dsimp only at hy ⊢
      by_cases e : y = x
      · rw [if_pos e] at hy
        rw [if_neg (fun e2 => hyz (e.trans e2.symm))]
        intro hz
        rcases ho k hy with h5 | h5
        · exact h4 x z k (fun e2 => hyz (e.trans e2)) h5 hz
        · have := ((h3 z).2.base_le hz).2
          have := hwa.size
          omega
      · rw [if_neg e] at hy
        by_cases e2 : z = x
        · rw [if_pos e2]
          intro hz
          rcases ho k hz with h5 | h5
          · exact h4 y x k e hy h5
          · have := ((h3 y).2.base_le hy).2
            have := hwa.size
            omega
        · rw [if_neg e2]
          exact h4 y z k hyz hy
  have hbl : ∀ k, k < base → k ≠ mb → w1.heap[k]? = W.heap[k]? := fun k hk _ => hgc.block k (by omega) (fun e => by have := ((h3 x).2.base_le e).1; omega)
  have hbm : w1.heap[mb]? = W.heap[mb]? := hgc.block mb (by omega) hmb1
  have hcx : ∀ w2, Chg (fun b => b = mb) w1 w2 → Chg (fun k => k = mb ∨ base ≤ k) W w2 := fun w2 g => (hgc.mono (fun k e => .inr ((h3 x).2.base_le e).1)).trans (g.mono (fun k e => .inl e))
  rw [e0] at hrun
  cases hq : assocV eqI (.int .i64 x) ps with
  | none =>
    obtain ⟨w2, g0, g1, g2⟩ := litI_law.push (mt := 72) Try.underlying72 m1 h2 (k := .int .i64 x) (v := .slice A' n' c') ⟨x, rfl⟩ hq
    exact ⟨A0, _, c0, A', n', c', w1, w2, hlk, hrun, g0, hcx w2 g2, hbl, hbm, fin w2 _ g1 g2 (fun e he => (List.mem_append.1 he).elim (h2 e) (fun h => by rw [List.mem_singleton.1 h]; exact ⟨x, rfl⟩)) (assocI_snoc ps h2 hq)⟩
  | some o =>
    obtain ⟨w2, ps', g0, g1, g2, g3, g4⟩ := int_turn (P := Try.prog) (kt := 75) (mt := 72) Try.underlying75 Try.underlying72 m1 h2 (u := .slice A' n' c') hq
    exact ⟨A0, _, c0, A', n', c', w1, w2, hlk, hrun, g0, hcx w2 g2, hbl, hbm, fin w2 ps' g1 g2 g3 g4⟩
end Go.Proofs.Ytggfjfmgclcnlaa.Zb
