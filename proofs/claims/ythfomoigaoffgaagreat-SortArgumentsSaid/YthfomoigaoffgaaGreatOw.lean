/- Slices of one's own: a value whose elements lie in a block that this call may write; append, cut, store.  It names no program. -/
import Derived.Test.YthfomoigaoffgaaGreatG
import Derived.ArgAppend
import Derived.Laws.IdiomCopy
import Derived.Laws.AppendOwn
namespace Go.Proofs.YthfomoigaoffgaaGreat.G
set_option linter.unusedSimpArgs false
set_option linter.unusedVariables false
open Go Go.RowKit Go.Proofs.YthfomoigaoffgaaGreat.K

/-- The cells of elements, from a place on. -/
def Cells {α : Type} (d : Rd α) (S : Nat → Prop) (w : World) (b o : Nat) (xs : List α) : Prop :=
  ∀ j x, xs[j]? = some x → ∃ cs, d.K S w x cs ∧ ∀ i u, cs[i]? = some u → w.cell? ⟨b, o + j * d.sz + i, none⟩ = some u
/-- A slice of one's own: from block base on, its elements' inner data apart from its own block. -/
def Mine {α : Type} (d : Rd α) (base : Nat) (S : Nat → Prop) (w : World) (v : Value) (xs : List α) : Prop :=
  ∃ A cap, v = .slice A xs.length cap ∧ xs.length ≤ cap ∧ cap ≤ maxLen ∧ ((A = none ∧ cap = 0) ∨ ∃ g o, A = some ⟨g, o, none⟩ ∧ base ≤ g ∧ g < w.heap.size ∧
    (∀ j, j < cap * d.sz → (w.cell? ⟨g, o + j, none⟩).isSome = true ∧ w.frozen? ⟨g, o + j, none⟩ = false) ∧ Cells d (fun k => S k ∧ k ≠ g) w g o xs)

section
variable {α : Type} {d : Rd α} {S S' : Nat → Prop} {w w' : World} {b o base : Nat} {xs ys : List α} {v : Value}
theorem Cells.mono (hm : ∀ k, S k → S' k) (h : Cells d S w b o xs) : Cells d S' w b o xs := fun j x hj => by
  obtain ⟨cs, hk, hc⟩ := h j x hj
  exact ⟨cs, d.mono hm hk, hc⟩
theorem Cells.bound (h : Cells d S w b o xs) : Cells d (fun k => S k ∧ k < w.heap.size) w b o xs := fun j x hj => by
  obtain ⟨cs, hk, hc⟩ := h j x hj
  exact ⟨cs, d.bound hk, hc⟩
theorem Cells.move (hm : ∀ k, S k → k < w.heap.size → w'.heap[k]? = w.heap[k]?) (hb : w'.heap[b]? = w.heap[b]?) (h : Cells d S w b o xs) : Cells d S w' b o xs := fun j x hj => by
  obtain ⟨cs, hk, hc⟩ := h j x hj
  exact ⟨cs, d.move hm hk, fun i u hu => by rw [← hc i u hu]; exact World.cell?_of_block hb⟩
theorem Cells.nil (d : Rd α) (S : Nat → Prop) (w : World) (b o : Nat) : Cells d S w b o [] := fun j x hj => by simp at hj
theorem Mine.nil (d : Rd α) (base : Nat) (S : Nat → Prop) (w : World) : Mine d base S w (.slice none 0 0) [] := ⟨none, 0, rfl, Nat.le_refl _, Nat.zero_le _, .inl ⟨rfl, rfl⟩⟩
theorem Mine.lower {base' : Nat} (h : Mine d base S w v xs) (hb : base' ≤ base) : Mine d base' S w v xs := by
  obtain ⟨A, cap, e, h1, h2, h3⟩ := h
  refine ⟨A, cap, e, h1, h2, h3.imp id ?_⟩
  rintro ⟨g, o, e1, e2, r⟩
  exact ⟨g, o, e1, by omega, r⟩
theorem Mine.mono (hm : ∀ k, S k → S' k) (h : Mine d base S w v xs) : Mine d base S' w v xs := by
  obtain ⟨A, cap, e, h1, h2, h3⟩ := h
  refine ⟨A, cap, e, h1, h2, h3.imp id ?_⟩
  rintro ⟨g, o, e1, e2, e3, e4, e5⟩
  exact ⟨g, o, e1, e2, e3, e4, e5.mono (fun k hk => ⟨hm k hk.1, hk.2⟩)⟩
theorem Mine.move (hm : ∀ k, S k → k < w.heap.size → w'.heap[k]? = w.heap[k]?) (hg : ∀ k, v.ownBlock = some k → w'.heap[k]? = w.heap[k]?) (h : Mine d base S w v xs) : Mine d base S w' v xs := by
  obtain ⟨A, cap, rfl, h1, h2, h3⟩ := h
  refine ⟨A, cap, rfl, h1, h2, h3.imp id ?_⟩
  rintro ⟨g, o, rfl, e2, e3, e4, e5⟩
  have hb : w'.heap[g]? = w.heap[g]? := hg g (by simp [Value.ownBlock])
  refine ⟨g, o, rfl, e2, lt_moved e3 hb, fun j hj => ?_, e5.move (fun k hk hlt => hm k hk.1 hlt) hb⟩
  rw [World.cell?_of_block (a := ⟨g, o + j, none⟩) hb, World.frozen?_of_block (a := ⟨g, o + j, none⟩) hb]
  exact e4 j hj
theorem Mine.chg {T : Nat → Prop} (h : Mine d base S w v xs) (hc : Chg T w w') (hn : ∀ k, S k → k < w.heap.size → ¬ T k) (hg : ∀ k, v.ownBlock = some k → ¬ T k) : Mine d base S w' v xs := by
  obtain ⟨A, cap, rfl, h1, h2, h3⟩ := h
  rcases h3 with h3 | ⟨g, o, rfl, e2, e3, e4, e5⟩
  · exact ⟨A, cap, rfl, h1, h2, .inl h3⟩
  · exact Mine.move (fun k hs hk => hc.block k hk (hn k hs hk)) (fun k hk => by
      have : g = k := by simpa [Value.ownBlock] using hk
      subst this
      exact hc.block _ e3 (hg _ hk)) ⟨_, cap, rfl, h1, h2, .inr ⟨g, o, rfl, e2, e3, e4, e5⟩⟩
/-- .. where what is turned of its own block is no row of cells -/
theorem Mine.chgD {T : Nat → Prop} (h : Mine d base S w v xs) (hc : Chg T w w') (hn : ∀ k, S k → k < w.heap.size → ¬ T k) (hg : ∀ k, v.ownBlock = some k → T k → ∀ p : Addr, p.block = k → w.cell? p = none) : Mine d base S w' v xs := by
  have h0 := h
  obtain ⟨A, cap, rfl, h1, h2, h3⟩ := h
  rcases h3 with h3 | ⟨g, o, rfl, e2, e3, e4, e5⟩
  · exact ⟨A, cap, rfl, h1, h2, .inl h3⟩
  · by_cases hz : 0 < cap * d.sz
    · refine h0.chg hc hn (fun k hk ht => ?_)
      have : g = k := by simpa [Value.ownBlock] using hk
      subst this
      have := (e4 0 hz).1
      rw [hg _ hk ht ⟨g, o + 0, none⟩ rfl] at this
      cases this
    · refine ⟨_, cap, rfl, h1, h2, .inr ⟨g, o, rfl, e2, by have := hc.size; omega, fun j hj => absurd hj (by omega), fun j x hj => ?_⟩⟩
      obtain ⟨cs, hk, hcc⟩ := e5 j x hj
      refine ⟨cs, d.move (fun k hs hlt => hc.block k hlt (hn k hs.1 hlt)) hk, fun i u hu => ?_⟩
      have hi := (List.getElem?_eq_some_iff.1 hu).1
      rw [d.len hk] at hi
      have hj' := (List.getElem?_eq_some_iff.1 hj).1
      have : 0 < cap * d.sz := Nat.mul_pos (by omega) (by omega)
      omega
theorem Mine.below (h : Mine d base S w v xs) (hb : Below w.heap.size w w') : Mine d base S w' v xs := h.chg (T := fun _ => False) (Chg.of_fresh hb) (fun _ _ _ h => h) (fun _ _ h => h)
theorem Mine.len (h : Mine d base S w v xs) : xs.length ≤ maxLen := by obtain ⟨A, cap, _, h1, h2, _⟩ := h; omega
theorem Mine.base_le (h : Mine d base S w v xs) {k : Nat} (hk : v.ownBlock = some k) : base ≤ k ∧ k < w.heap.size := by
  obtain ⟨A, cap, rfl, h1, h2, h3⟩ := h
  rcases h3 with ⟨rfl, _⟩ | ⟨g, o, rfl, e2, e3, _⟩
  · simp [Value.ownBlock] at hk
  · have : g = k := by simpa [Value.ownBlock] using hk
    subst this
    exact ⟨e2, e3⟩
theorem Mine.form (h : Mine d base S w v xs) : ∃ A cap, v = .slice A xs.length cap ∧ xs.length ≤ cap := by
  obtain ⟨A, cap, e, h1, _⟩ := h
  exact ⟨A, cap, e, h1⟩
/-- such a slice, read -/
theorem Mine.read {A : Option Addr} {n c : Nat} (h : Mine d base S w (.slice A n c) xs) : n = xs.length ∧ n ≤ c ∧ C d (fun k => S k ∨ A.map (·.block) = some k) w A xs := by
  obtain ⟨A', cap, e, h1, h2, h3⟩ := h
  injection e with e1 e2 e3
  subst e1; subst e2; subst e3
  refine ⟨rfl, h1, by omega, fun hn => ?_⟩
  have := List.length_pos_iff.2 hn
  rcases h3 with ⟨_, h3⟩ | ⟨g, o, rfl, e2, e3, e4, e5⟩
  · omega
  · exact ⟨g, o, rfl, .inr rfl, e3, e5.mono (fun k hk => .inl hk.1)⟩
theorem Mine.slice_ (h : Mine d base S w v xs) : ∃ A c, v = .slice A xs.length c ∧ xs.length ≤ c ∧ C d (fun k => S k ∨ v.ownBlock = some k) w A xs := by
  obtain ⟨A, c, rfl, hl⟩ := h.form
  obtain ⟨_, h2, h3⟩ := h.read
  exact ⟨A, c, rfl, hl, h3.mono (fun k hk => hk.imp id (fun e => by cases A <;> simp_all [Value.ownBlock]))⟩

/-- all the cells of a row, in one list -/
theorem Cells.flat : ∀ {xs : List α} {o : Nat}, Cells d S w b o xs → ∃ l : List Value, l.length = xs.length * d.sz ∧ (∀ u ∈ l, u.oneCell' = true) ∧ (∀ j u, l[j]? = some u → w.cell? ⟨b, o + j, none⟩ = some u) ∧
    ∀ j x, xs[j]? = some x → ∃ cs, d.K S w x cs ∧ ∀ i u, cs[i]? = some u → l[j * d.sz + i]? = some u
  | [], o, _ => ⟨[], by simp, fun u hu => absurd hu List.not_mem_nil, fun j u hj => by simp at hj, fun j x hj => by simp at hj⟩
  | x :: r, o, h => by
    obtain ⟨cs, hk, hc⟩ := h 0 x rfl
    have hl := d.len hk
    obtain ⟨l, h1, h2, h3, h4⟩ := Cells.flat (xs := r) (o := o + d.sz) (fun j y hj => by
      obtain ⟨cs', hk', hc'⟩ := h (j + 1) y (by simpa using hj)
      exact ⟨cs', hk', fun i u hu => by rw [← hc' i u hu, show o + d.sz + j * d.sz + i = o + (j + 1) * d.sz + i by rw [Nat.add_mul]; omega]⟩)
    refine ⟨cs ++ l, by rw [List.length_append, hl, h1, List.length_cons, Nat.add_mul]; omega, fun u hu => ?_, fun j u hj => ?_, fun j y hj => ?_⟩
    · rcases List.mem_append.1 hu with hu | hu
      · exact d.one hk u hu
      · exact h2 u hu
    · by_cases hlt : j < cs.length
      · rw [List.getElem?_append_left hlt] at hj
        have := hc j u hj
        rwa [Nat.zero_mul, Nat.add_zero] at this
      · rw [List.getElem?_append_right (by omega)] at hj
        have := h3 _ u hj
        rwa [show o + d.sz + (j - cs.length) = o + j by omega] at this
    · cases j with
      | zero =>
        cases hj
        refine ⟨cs, hk, fun i u hu => ?_⟩
        rw [Nat.zero_mul, Nat.zero_add, List.getElem?_append_left (List.getElem?_eq_some_iff.1 hu).1]
        exact hu
      | succ j =>
        obtain ⟨cs', hk', hc'⟩ := h4 j y (by simpa using hj)
        refine ⟨cs', hk', fun i u hu => ?_⟩
        rw [List.getElem?_append_right (by rw [hl, Nat.add_mul]; omega), hl, show (j + 1) * d.sz + i - d.sz = j * d.sz + i by rw [Nat.add_mul]; omega]
        exact hc' i u hu

theorem setCells_other (b : Nat) (k : Nat) (hk : k ≠ b) : ∀ (vs : List Value) (o : Nat) (w : World), (w.setCells b o vs).heap[k]? = w.heap[k]?
  | [], _, _ => rfl
  | v :: r, o, w => (setCells_other b k hk r (o + 1) _).trans (Below.heap_setCell w ⟨b, o, none⟩ v k hk)
theorem setCells_size (b : Nat) : ∀ (vs : List Value) (o : Nat) (w : World), (w.setCells b o vs).heap.size = w.heap.size
  | [], _, _ => rfl
  | v :: r, o, w => (setCells_size b r (o + 1) _).trans (by simp [World.setCell])
theorem setCells_rest (b : Nat) : ∀ (vs : List Value) (o : Nat) (w : World), (w.setCells b o vs).os = w.os ∧ (w.setCells b o vs).tape = w.tape ∧ (w.setCells b o vs).output = w.output
  | [], _, _ => ⟨rfl, rfl, rfl⟩
  | v :: r, o, w => setCells_rest b r (o + 1) _
theorem grown_setCells (w : World) (b o : Nat) (vs : List Value) : w.grownBy (w.setCells b o vs) (some b) :=
  ⟨(setCells_rest b vs o w).1, (setCells_rest b vs o w).2.1, (setCells_rest b vs o w).2.2, by rw [setCells_size]; exact Nat.le_refl _, fun k _ hn => setCells_other b k (fun e => hn (by rw [e])) vs o w⟩

/-- one law for 'append(v, ys...)' -/
theorem Mine.append {P : Program} {t ty e : TypeId} {i : TypeInfo} {z : Value} {bytes : Nat} (ht : P.underlying t = some (.slice e)) (hi : P.info? e = some i) (hz : i.zero = some z) (hsize : i.size = d.sz) (hby : i.bytes = bytes) (hzs : z.cells.size = d.sz) (hsz : 0 < d.sz)
    (h : Mine d base S w v xs) {b2 o2 c2 m : Nat} (hm : m = ys.length) (hy0 : ys ≠ []) (hy : Cells d (fun k => S k ∧ v.ownBlock ≠ some k) w b2 o2 ys)
    (h63 : xs.length + ys.length ≤ maxLen) (hbytes : (xs.length + ys.length) * bytes ≤ 140737488355328) (hbase : base ≤ w.heap.size) :
    ∃ v' w', (Builtin.append_ #[t, t] ty #[v, .slice (some ⟨b2, o2, none⟩) m c2]).run P w = .ok v' w' ∧ Mine d base S w' v' (xs ++ ys) ∧ w.grownBy w' v.ownBlock ∧ (v'.ownBlock = v.ownBlock ∨ v'.ownBlock = some w.heap.size) := by
  subst hm
  obtain ⟨ly, ly1, ly2, ly3, ly4⟩ := hy.flat
  have hyp : 0 < ys.length := List.length_pos_iff.2 hy0
  have adp : ∀ b' o' i, (⟨b', o', none⟩ : Addr).add i = ⟨b', o' + i, none⟩ := fun b' o' i => by unfold Addr.add; split <;> simp_all
  have hnews : ∀ j u, ly[j]? = some u → w.cell? ((⟨b2, o2, none⟩ : Addr).add j) = some u := fun j u hj => by rw [adp]; exact ly3 j u hj
  obtain ⟨A, cap, rfl, hle, hcm, hA⟩ := h
  -- a row that was laid anew
  have fresh : ∀ {v' : Value} {w' : World} {l : List Value}, w.grownBy w' none → w'.ownsRow w.heap.size e d.sz v' (xs.length + ys.length) (l ++ ly) → l.length = xs.length * d.sz →
      (∀ j x, xs[j]? = some x → ∃ cs, d.K S w x cs ∧ ∀ i u, cs[i]? = some u → l[j * d.sz + i]? = some u) → Mine d base S w' v' (xs ++ ys) ∧ v'.ownBlock = some w.heap.size ∨ ∃ k, v'.ownBlock = some k ∧ w.heap.size ≤ k ∧ Mine d base S w' v' (xs ++ ys) := by
    intro v' w' l hg ho hl hx
    refine .inr ?_
    have ho' := ho
    rcases ho.2 with ⟨_, h0⟩ | ⟨g, cap', cur, rfl, hg1, hh, hnc, hcm', hcs, _⟩
    · omega
    · have hmv : ∀ k, k < w.heap.size → w'.heap[k]? = w.heap[k]? := fun k hk => hg.block k hk (by simp)
      refine ⟨g, by simp [Value.ownBlock], hg1, some ⟨g, 0, none⟩, cap', by rw [List.length_append], by rw [List.length_append]; exact hnc, hcm', .inr ⟨g, 0, rfl, by omega, (Array.getElem?_eq_some_iff.1 hh).1, fun j hj => ?_, fun j x hj => ?_⟩⟩
      · rw [Nat.zero_add]
        refine ⟨?_, by simp [World.frozen?, hh]⟩
        have : w'.cell? ⟨g, j, none⟩ = cur[j]? := by simp [World.cell?, hh]
        rw [this, Array.getElem?_eq_getElem (by omega)]
        rfl
      · have hlx : (l ++ ly)[j * d.sz]? = (l ++ ly)[j * d.sz]? := rfl
        by_cases hjx : j < xs.length
        · rw [List.getElem?_append_left hjx] at hj
          obtain ⟨cs, hk, hc⟩ := hx j x hj
          refine ⟨cs, d.mono (fun k hk => ⟨hk.1, by omega⟩) (d.move (fun k _ hk => hmv k hk) (d.bound hk)), fun i u hu => ?_⟩
          have h1 := hc i u hu
          rw [Nat.zero_add, ho'.cellAt _ (by
            have h2 := (List.getElem?_eq_some_iff.1 h1).1
            have : xs.length * d.sz ≤ (xs.length + ys.length) * d.sz := Nat.mul_le_mul_right _ (by omega)
            omega), List.getElem?_append_left (List.getElem?_eq_some_iff.1 h1).1]
          exact h1
        · rw [List.getElem?_append_right (by omega)] at hj
          obtain ⟨cs, hk, hc⟩ := ly4 _ x hj
          refine ⟨cs, d.mono (fun k hk => ⟨hk.1.1, by omega⟩) (d.move (fun k _ hk => hmv k hk) (d.bound hk)), fun i u hu => ?_⟩
          have h1 := hc i u hu
          have h2 := (List.getElem?_eq_some_iff.1 h1).1
          have e1 : j * d.sz = xs.length * d.sz + (j - xs.length) * d.sz := by rw [← Nat.add_mul]; congr 1; omega
          rw [Nat.zero_add, ho'.cellAt _ (by rw [Nat.add_mul]; omega), List.getElem?_append_right (by omega), show j * d.sz + i - l.length = (j - xs.length) * d.sz + i by omega]
          exact h1
  have newRow : ∀ {v' : Value} {w' : World}, w'.ownsRow w.heap.size e d.sz v' (xs.length + ys.length) ly → False → False := fun _ h => h
  rcases hA with ⟨rfl, rfl⟩ | ⟨g, o, rfl, hg1, hg2, hsp, hx⟩
  · have hx0 : xs = [] := List.eq_nil_of_length_eq_zero (by omega)
    subst hx0
    have h63' : (0 : Nat) + ys.length ≤ maxLen := by simpa using h63
    obtain ⟨v', w', hr, ho, hgr, _⟩ := run_append_own (P := P) w w.heap.size t ty e i z d.sz bytes ht hi hz hsize hby hzs hsz (.slice none 0 0) 0 [] (World.ownsRow_nil w _ _ _) ⟨b2, o2, none⟩ ys.length c2 ly ly1 hnews ly2 h63' (by simpa using hbytes) (Nat.le_refl _)
    rcases fresh (l := []) (v' := v') (w' := w') (by simpa [Value.ownBlock] using hgr) (by simpa using ho) (by simp) (fun j x hj => by simp at hj) with h1 | ⟨k, h1, h2, h3⟩
    · exact ⟨v', w', hr, h1.1, hgr, .inr h1.2⟩
    · refine ⟨v', w', hr, h3, hgr, ?_⟩
      exact .inr (by
        have hq := run_append_nil (P := P) w t ty e i z ht hi hz ⟨b2, o2, none⟩ ys.length c2 ly (by rw [ly1, hsize]) hnews hyp (by unfold maxLen at h63; omega) (by rw [hby]; simp at hbytes; omega)
        have hr' : (Builtin.append_ #[t, t] ty #[.slice none 0 0, .slice (some ⟨b2, o2, none⟩) ys.length c2]).run P w = .ok v' w' := hr
        rw [hq] at hr'
        injection hr' with e1 e2
        rw [← e1]
        simp [Value.ownBlock])
  · have hy' : ∀ k, (fun k => S k ∧ (Value.slice (some ⟨g, o, none⟩) xs.length cap).ownBlock ≠ some k) k → S k ∧ k ≠ g := fun k hk => ⟨hk.1, fun e => hk.2 (by simp [Value.ownBlock, e])⟩
    by_cases hroom : xs.length + ys.length ≤ cap
    · have hkc : (xs.length + ys.length) * d.sz ≤ cap * d.sz := Nat.mul_le_mul_right _ hroom
      rw [Nat.add_mul] at hkc
      have hin : ∀ j, j < ly.length → (w.cell? ⟨g, o + xs.length * d.sz + j, none⟩).isSome = true := fun j hj => by rw [Nat.add_assoc]; exact (hsp _ (by omega)).1
      have hr := run_append_room_cells (P := P) w t ty e i ht hi g o xs.length cap ⟨b2, o2, none⟩ ys.length c2 ly (by rw [ly1, hsize]) hnews ly2 hroom
        (fun j hj => by rw [hsize]; exact hin j hj) (fun j hj => by rw [hsize, Nat.add_assoc]; exact (hsp _ (by omega)).2)
      rw [hsize] at hr
      refine ⟨_, _, hr, ⟨some ⟨g, o, none⟩, cap, by rw [List.length_append], by rw [List.length_append]; exact hroom, hcm, .inr ⟨g, o, rfl, hg1, by rw [setCells_size]; exact hg2, fun j hj => ?_, fun j x hj => ?_⟩⟩, by simpa [Value.ownBlock] using grown_setCells w g _ ly, .inl rfl⟩
      · rw [World.frozen?_setCells]
        refine ⟨?_, (hsp j hj).2⟩
        by_cases hq : o + xs.length * d.sz ≤ o + j ∧ o + j < o + xs.length * d.sz + ly.length
        · have := World.cell?_setCells_in g ly (o + xs.length * d.sz) w hin (j - xs.length * d.sz) (by omega)
          rw [show o + xs.length * d.sz + (j - xs.length * d.sz) = o + j by omega] at this
          rw [this]
          rfl
        · rw [World.cell?_setCells_out g ly _ w _ (fun _ _ => by show o + j < _ ∨ _ ≤ o + j; omega)]
          exact (hsp j hj).1
      · by_cases hjx : j < xs.length
        · rw [List.getElem?_append_left hjx] at hj
          obtain ⟨cs, hk, hc⟩ := hx j x hj
          refine ⟨cs, d.move (fun k hk _ => setCells_other g k hk.2 ly _ w) hk, fun i u hu => ?_⟩
          have hi := (List.getElem?_eq_some_iff.1 hu).1
          rw [d.len hk] at hi
          have : (j + 1) * d.sz ≤ xs.length * d.sz := Nat.mul_le_mul_right _ (by omega)
          rw [Nat.add_mul] at this
          rw [World.cell?_setCells_out g ly _ w _ (fun _ _ => by show o + j * d.sz + i < _ ∨ _; omega)]
          exact hc i u hu
        · rw [List.getElem?_append_right (by omega)] at hj
          obtain ⟨cs, hk, hc⟩ := ly4 _ x hj
          refine ⟨cs, d.move (fun k hk _ => setCells_other g k hk.2 ly _ w) (d.mono hy' hk), fun i u hu => ?_⟩
          have h1 := hc i u hu
          have h2 := (List.getElem?_eq_some_iff.1 h1).1
          have e1 : j * d.sz = xs.length * d.sz + (j - xs.length) * d.sz := by rw [← Nat.add_mul]; congr 1; omega
          have := World.cell?_setCells_in g ly (o + xs.length * d.sz) w hin ((j - xs.length) * d.sz + i) h2
          rw [show o + xs.length * d.sz + ((j - xs.length) * d.sz + i) = o + j * d.sz + i by omega] at this
          rw [this, ← h1, List.getElem?_eq_getElem h2]
    · obtain ⟨lx, lx1, lx2, lx3, lx4⟩ := hx.flat
      obtain ⟨v', w', hr, ho, hgr⟩ := run_append_arg_grows (P := P) w t ty e i z d.sz bytes ht hi hz hsize hby hzs hsz ⟨g, o, none⟩ xs.length cap lx lx1 (fun j u hj => by rw [adp]; exact lx3 j u hj) ⟨b2, o2, none⟩ ys.length c2 ly ly1 hnews (by omega) h63 hbytes
      have hgr' : w.grownBy w' (Value.slice (some ⟨g, o, none⟩) xs.length cap).ownBlock := ⟨hgr.os, hgr.tape, hgr.output, hgr.size, fun k hk _ => hgr.block k hk (by simp)⟩
      rcases fresh (l := lx) hgr ho lx1 (fun j x hj => by
        obtain ⟨cs, hk, hc⟩ := lx4 j x hj
        exact ⟨cs, d.mono (fun k hk => hk.1) hk, hc⟩) with h1 | ⟨k, h1, h2, h3⟩
      · exact ⟨v', w', hr, h1.1, hgr', .inr h1.2⟩
      · refine ⟨v', w', hr, h3, hgr', .inr ?_⟩
        have hq := run_append_grow (P := P) w t ty e i z ht hi hz ⟨g, o, none⟩ xs.length cap lx (by rw [lx1, hsize]) (fun j u hj => by rw [adp]; exact lx3 j u hj) ⟨b2, o2, none⟩ ys.length c2 ly (by rw [ly1, hsize]) hnews (by omega) (by unfold maxLen at h63; omega) (by rw [hby]; exact growslice_fits (by omega) hbytes)
        rw [hq] at hr
        injection hr with e1 e2
        rw [← e1]
        simp [Value.ownBlock]

/-- 'v[m:]' -/
theorem Mine.drop {A : Option Addr} {n c : Nat} (h : Mine d base S w (.slice A n c) xs) (m : Nat) (hm : m ≤ n) : Mine d base S w (.slice (if c = m then A else A.map (fun a => ⟨a.block, a.off + m * d.sz, none⟩)) (n - m) (c - m)) (xs.drop m) := by
  obtain ⟨A', cap, e, h1, h2, h3⟩ := h
  injection e with e1 e2 e3
  subst e1; subst e2; subst e3
  refine ⟨_, c - m, by rw [List.length_drop], by rw [List.length_drop]; omega, by omega, ?_⟩
  rcases h3 with ⟨rfl, rfl⟩ | ⟨g, o, rfl, e2, e3, e4, e5⟩
  · exact .inl ⟨by simp, by omega⟩
  · by_cases hc : c = m
    · rw [if_pos hc]
      refine .inr ⟨g, o, rfl, e2, e3, fun j hj => ?_, fun j x hj => ?_⟩
      · rw [hc, Nat.sub_self, Nat.zero_mul] at hj
        exact absurd hj (Nat.not_lt_zero _)
      · rw [List.drop_eq_nil_of_le (by omega)] at hj
        simp at hj
    · rw [if_neg hc]
      refine .inr ⟨g, o + m * d.sz, rfl, e2, e3, fun j hj => ?_, fun j x hj => ?_⟩
      · rw [Nat.sub_mul] at hj
        rw [Nat.add_assoc]
        exact e4 _ (by omega)
      · rw [List.getElem?_drop] at hj
        obtain ⟨cs, hk, hcc⟩ := e5 _ x hj
        refine ⟨cs, hk, fun i u hu => ?_⟩
        rw [← hcc i u hu, show o + m * d.sz + j * d.sz + i = o + (m + j) * d.sz + i by rw [Nat.add_mul]; omega]
/-- a block that holds just the cells of elements -/
theorem Mine.made {t : TypeId} {cs : Array Value} {g cap : Nat} (hh : w.heap[g]? = some (.cells cs t (0, 0))) (hg : base ≤ g) (hl : xs.length ≤ cap) (hc : cap ≤ maxLen) (hs : cap * d.sz ≤ cs.size) (hx : Cells d (fun k => S k ∧ k ≠ g) w g 0 xs) : Mine d base S w (.slice (some ⟨g, 0, none⟩) xs.length cap) xs :=
  ⟨_, cap, rfl, hl, hc, .inr ⟨g, 0, rfl, hg, (Array.getElem?_eq_some_iff.1 hh).1, fun j hj => by
    rw [Nat.zero_add]
    refine ⟨?_, by simp [World.frozen?, hh]⟩
    have : w.cell? ⟨g, j, none⟩ = cs[j]? := by simp [World.cell?, hh]
    rw [this, Array.getElem?_eq_getElem (by omega)]
    rfl, hx⟩⟩
end
/-- at the walk: an append whose run is known -/
theorem wpList_append_run {P : Program} {ops : Array Oper} {rest : List Oper} {o : Oper} {a : Act} {w : World} {Q : Exit → Act → World → Prop} (hg : o.guard = none) (s x : Operand) (t : TypeId)
    (hop : o.op = Op.call { callee := Callee.builtin Builtin.append, args := #[s, x], argTypes := #[t, t] }) (v vx : Value) (hs : a.eval s = v) (hx : a.eval x = vx) (v' : Value) (w' : World)
    (hrun : (Builtin.append_ #[t, t] o.type #[v, vx]).run P w = .ok v' w') (hK : wpList P ops Q rest (a.put o.dst v') w') : wpList P ops Q (o :: rest) a w := by
  refine wpList_plain hg fun K hK' => ?_
  subst hs hx
  unfold Oper.wp
  simp [execOp, hop, resolve, invoke, builtin, hrun, Result.andThen]
  exact hK' _ _ hK
theorem scalar_cells {α : Type} {f : α → Value} {h : ∀ x, (f x).oneCell' = true} {S : Nat → Prop} {w : World} {b o : Nat} {xs : List α} (hc : ∀ j x, xs[j]? = some x → w.cell? ⟨b, o + j, none⟩ = some (f x)) : Cells (scalar f h) S w b o xs := fun j x hj => ⟨[f x], rfl, fun i u hu => by
  have hi : i < 1 := (List.getElem?_eq_some_iff.1 hu).1
  obtain rfl : i = 0 := by omega
  cases hu
  have e : (scalar f h).sz = 1 := rfl
  rw [e, Nat.mul_one, Nat.add_zero]
  exact hc j x hj⟩
end Go.Proofs.YthfomoigaoffgaaGreat.G
