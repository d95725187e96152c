/- The state of the solver: its block, and what hangs on it. -/
import Derived.Test.YtggfjfmgclcnlaaZlm
import Derived.Test.YtggfjfmgclcnlaaZhi
namespace Go.Proofs.Ytggfjfmgclcnlaa.Z
set_option linter.unusedSimpArgs false
set_option linter.unusedVariables false

/-- how many literals hold, how many are open, clause by clause -/
def hdL (v : List Int) (l : List Cls) : List Int := l.map (fun c => (heldN v c : Int))
def opL (v : List Int) (l : List Cls) : List Int := l.map (fun c => (openN v c : Int))
theorem hdL_len (v : List Int) (l : List Cls) : (hdL v l).length = l.length := by simp [hdL]
theorem opL_len (v : List Int) (l : List Cls) : (opL v l).length = l.length := by simp [opL]
theorem hdL_get (v : List Int) (l : List Cls) (j : Nat) : (hdL v l).getD j 0 = (heldN v (l.getD j []) : Int) := by
  unfold hdL
  simp only [List.getD_eq_getElem?_getD, List.getElem?_map]
  cases l[j]? <;> rfl
theorem opL_get (v : List Int) (l : List Cls) (j : Nat) : (opL v l).getD j 0 = (openN v (l.getD j []) : Int) := by
  unfold opL
  simp only [List.getD_eq_getElem?_getD, List.getElem?_map]
  cases l[j]? <;> rfl
theorem ext_getD {a b : List Int} (h : a.length = b.length) (hj : ∀ j, j < a.length → a.getD j 0 = b.getD j 0) : a = b := by
  refine List.ext_getElem h fun j h1 h2 => ?_
  have := hj j h1
  rw [List.getD_eq_getElem?_getD, List.getD_eq_getElem?_getD, List.getElem?_eq_getElem h1, List.getElem?_eq_getElem h2] at this
  exact this
theorem occ0 (x : Int) (l : List Cls) (j : Nat) (hj : j < l.length) : (occF x l 0).count j = (l.getD j []).count x := by
  have := occF_count x l 0 j hj
  rw [Nat.zero_add] at this
  rw [this, List.getD_eq_getElem?_getD, List.getElem?_eq_getElem hj]
  rfl
section
variable {v : List Int} (hv : Vok v) {x : Int} (h0 : x ≠ 0) (h60 : x.natAbs ≤ 60) (hx : lv v x = 0) (l : List Cls)
include hv h0 h60 hx
theorem hdL_set : addAt 1 (hdL v l) (occF x l 0) = hdL (setV v x) l := by
  refine ext_getD (by rw [addAt_len, hdL_len, hdL_len]) fun j hj => ?_
  rw [addAt_len, hdL_len] at hj
  rw [addAt_get _ _ _ _ (by rw [hdL_len]; exact hj), hdL_get, hdL_get, occ0 x l j hj, held_set hv h0 h60 hx]
  omega
theorem opL_set : addAt (-1) (addAt (-1) (opL v l) (occF x l 0)) (occF (-x) l 0) = opL (setV v x) l := by
  refine ext_getD (by rw [addAt_len, addAt_len, opL_len, opL_len]) fun j hj => ?_
  rw [addAt_len, addAt_len, opL_len] at hj
  rw [addAt_get _ _ _ _ (by rw [addAt_len, opL_len]; exact hj), addAt_get _ _ _ _ (by rw [opL_len]; exact hj), opL_get, opL_get, occ0 x l j hj, occ0 (-x) l j hj, ← open_set hv h0 h60 hx]
  omega
theorem hdL_unset : addAt (-1) (hdL (setV v x) l) (occF x l 0) = hdL v l := by
  refine ext_getD (by rw [addAt_len, hdL_len, hdL_len]) fun j hj => ?_
  rw [addAt_len, hdL_len] at hj
  rw [addAt_get _ _ _ _ (by rw [hdL_len]; exact hj), hdL_get, hdL_get, occ0 x l j hj, held_set hv h0 h60 hx]
  omega
theorem opL_unset : addAt 1 (addAt 1 (opL (setV v x) l) (occF x l 0)) (occF (-x) l 0) = opL v l := by
  refine ext_getD (by rw [addAt_len, addAt_len, opL_len, opL_len]) fun j hj => ?_
  rw [addAt_len, addAt_len, opL_len] at hj
  rw [addAt_get _ _ _ _ (by rw [addAt_len, opL_len]; exact hj), addAt_get _ _ _ _ (by rw [opL_len]; exact hj), opL_get, opL_get, occ0 x l j hj, occ0 (-x) l j hj, ← open_set hv h0 h60 hx (l.getD j [])]
  omega
end
theorem setV_undo {v : List Int} {x : Int} (hx : lv v x = 0) : (setV v x).set x.natAbs 0 = v := by
  unfold setV
  rw [List.set_set]
  have e := lv_zero hx
  refine ext_getD (by rw [List.length_set]) fun j hj => ?_
  simp only [List.getD_eq_getElem?_getD] at e ⊢
  rw [List.getElem?_set]
  by_cases h : x.natAbs = j
  · subst h
    rw [if_pos rfl]
    rw [List.length_set] at hj
    rw [if_pos hj, e]
    rfl
  · rw [if_neg h]
theorem held_le (v : List Int) (c : Cls) : heldN v c ≤ c.length := List.countP_le_length
theorem open_le (v : List Int) (c : Cls) : openN v c ≤ c.length := List.countP_le_length
theorem occF_len_le (y : Int) : ∀ (l : List Cls) (i : Nat), (∀ c ∈ l, c.length ≤ 60) → (occF y l i).length ≤ 60 * l.length
  | [], i, _ => Nat.zero_le _
  | c :: r, i, h => by
    rw [occF, List.length_append, List.length_replicate, List.length_cons]
    have h1 := occF_len_le y r (i + 1) (fun d hd => h d (List.mem_cons_of_mem _ hd))
    have h2 := h c (List.mem_cons_self ..)
    have h3 : c.count y ≤ c.length := List.count_le_length
    omega
theorem search_fuel (l : List Cls) : ∀ (k : Nat) (v : List Int) (S : SS), (searchB l k v S).s.fuel ≤ S.fuel
  | 0, v, S => Int.le_refl _
  | k + 1, v, S => by
    have hr : ∀ (S : SS) w wo x, (resolveB S w wo x).2.fuel = S.fuel := fun S w wo x => by
      unfold resolveB
      split
      · rfl
      · split
        · rfl
        · split <;> rfl
    rw [searchB]
    cases nextF v l 0 none with
    | none => exact Int.le_refl _
    | some io =>
      obtain ⟨i, o⟩ := io
      dsimp only
      split
      · dsimp only; omega
      · have h1 := search_fuel l k (setV v (freeB v (l.getD i []))) S
        generalize searchB l k (setV v (freeB v (l.getD i []))) S = r1 at h1 ⊢
        unfold thenB
        split
        · exact h1
        · split
          · exact h1
          · split
            · dsimp only; rw [hr]; exact h1
            · have h2 := search_fuel l k (setV v (-(freeB v (l.getD i [])))) r1.s
              generalize searchB l k (setV v (-(freeB v (l.getD i [])))) r1.s = r2 at h2 ⊢
              dsimp only
              split
              · omega
              · split
                · dsimp only; omega
                · dsimp only; rw [hr]; omega
end Go.Proofs.Ytggfjfmgclcnlaa.Z
namespace Go.Proofs.Ytggfjfmgclcnlaa.Zb
open Go Go.RowKit Go.Shelf Go.Proofs.Ytggfjfmgclcnlaa.K Go.Proofs.Ytggfjfmgclcnlaa.G Go.Proofs.Ytggfjfmgclcnlaa.Z
set_option linter.unusedSimpArgs false
set_option linter.unusedVariables false

/-- the blocks of a solver: its own, its groups, its counts, its values; what the groups lean on -/
structure Bk where
  sp : Nat
  mb : Nat
  gh : Nat
  go : Nat
  gv : Nat
  S : Nat → Prop
structure Bk.Ok (B : Bk) : Prop where
  sm : B.sp ≠ B.mb
  sh : B.sp ≠ B.gh
  so : B.sp ≠ B.go
  sv : B.sp ≠ B.gv
  mh : B.mb ≠ B.gh
  mo : B.mb ≠ B.go
  mv : B.mb ≠ B.gv
  ho : B.gh ≠ B.go
  hv : B.gh ≠ B.gv
  ov : B.go ≠ B.gv
  S : ∀ k, B.S k → k ≠ B.sp ∧ k ≠ B.gh ∧ k ≠ B.go ∧ k ≠ B.gv
/-- the blocks that nobody else may write -/
def Bk.H (B : Bk) (k : Nat) : Prop := k = B.sp ∨ k = B.mb ∨ k = B.gh ∨ k = B.go ∨ k = B.gv ∨ B.S k
structure Sv (B : Bk) (l : List Cls) (v : List Int) (T : SS) (va vp : Value) (SA : Nat → Prop) (W : World) : Prop where
  k0 : W.cell? ⟨B.sp, 0, none⟩ = some va
  k1 : W.cell? ⟨B.sp, 1, none⟩ = some (.int .i64 (l.length : Int))
  k2 : W.cell? ⟨B.sp, 2, none⟩ = some vp
  k3 : W.cell? ⟨B.sp, 3, none⟩ = some (.map (some B.mb))
  k4 : W.cell? ⟨B.sp, 4, none⟩ = some (.slice (some ⟨B.gh, 0, none⟩) l.length l.length)
  k5 : W.cell? ⟨B.sp, 5, none⟩ = some (.slice (some ⟨B.go, 0, none⟩) l.length l.length)
  k6 : W.cell? ⟨B.sp, 6, none⟩ = some (.slice (some ⟨B.gv, 0, none⟩) 61 61)
  k7 : W.cell? ⟨B.sp, 7, none⟩ = some (.int .i64 T.fuel)
  k8 : W.cell? ⟨B.sp, 8, none⟩ = some (.int .i64 T.tr)
  fz : ∀ j, W.frozen? ⟨B.sp, j, none⟩ = false
  grp : Grp B.S W B.mb l
  held : W.rowIs B.gh 3 l.length (fun j => .int .i64 ((hdL v l).getD j 0))
  opn : W.rowIs B.go 3 l.length (fun j => .int .i64 ((opL v l).getD j 0))
  vals : W.rowIs B.gv 3 61 (fun j => .int .i64 (v.getD j 0))
  all : Mine kL 0 SA W va T.all
  sa : ∀ k, SA k → k < W.heap.size ∧ k ≠ B.sp ∧ k ≠ B.gh ∧ k ≠ B.go ∧ k ≠ B.gv ∧ vp.ownBlock ≠ some k
  prf : Mine kS 0 NoB W vp T.proof
  oa : ∀ k, va.ownBlock = some k → ¬ B.H k ∧ vp.ownBlock ≠ some k
  op : ∀ k, vp.ownBlock = some k → ¬ B.H k
  bS : ∀ k, B.S k → k < W.heap.size
theorem frozen_of {W W' : World} {b j : Nat} (h : W'.heap[b]? = W.heap[b]?) : W'.frozen? ⟨b, j, none⟩ = W.frozen? ⟨b, j, none⟩ := World.frozen?_of_block h
section
variable {B : Bk} {l : List Cls} {v : List Int} {T : SS} {va vp : Value} {SA : Nat → Prop} {W W' : World}
theorem Sv.sp_lt (h : Sv B l v T va vp SA W) : B.sp < W.heap.size := lt_of_cell h.k0
theorem Sv.mb_lt (h : Sv B l v T va vp SA W) : B.mb < W.heap.size := by obtain ⟨ps, h1, _⟩ := h.grp.map; exact h1.lt
theorem Sv.H_lt (h : Sv B l v T va vp SA W) : ∀ k, B.H k → k < W.heap.size := fun k hk => by
  rcases hk with rfl | rfl | rfl | rfl | rfl | hk
  · exact h.sp_lt
  · exact h.mb_lt
  · exact h.held.lt
  · exact h.opn.lt
  · exact h.vals.lt
  · exact h.bS k hk
theorem Sv.below (h : Sv B l v T va vp SA W) (hb : Below W.heap.size W W') : Sv B l v T va vp SA W' := by
  have hsp := hb.block _ h.sp_lt
  have c := fun (j : Nat) (u : Value) (e : W.cell? ⟨B.sp, j, none⟩ = some u) => (hb.cell (p := ⟨B.sp, j, none⟩) h.sp_lt).trans e
  have ha := h.all
  have hs := h.sa
  exact ⟨c _ _ h.k0, c _ _ h.k1, c _ _ h.k2, c _ _ h.k3, c _ _ h.k4, c _ _ h.k5, c _ _ h.k6, c _ _ h.k7, c _ _ h.k8, fun j => (frozen_of hsp).trans (h.fz j), h.grp.chg (Chg.of_fresh (T := fun _ => False) hb) (fun e => e) (fun _ _ _ e => e),
    h.held.of_block (hb.block _ h.held.lt), h.opn.of_block (hb.block _ h.opn.lt), h.vals.of_block (hb.block _ h.vals.lt), ha.below hb, fun k hk => ⟨Nat.lt_of_lt_of_le (hs k hk).1 hb.size, (hs k hk).2⟩, h.prf.below hb, h.oa, h.op, fun k hk => Nat.lt_of_lt_of_le (h.bS k hk) hb.size⟩
theorem Sv.drew (h : Sv B l v T va vp SA W) : Sv B l v T va vp SA W.drew := h.below (Chg.below1 W)
/-- the counts and the values turned -/
theorem Sv.turned {v' : List Int} (hB : B.Ok) (h : Sv B l v T va vp SA W) (hc : Chg (fun k => k = B.gh ∨ k = B.go ∨ k = B.gv) W W') (h1 : W'.rowIs B.gh 3 l.length (fun j => .int .i64 ((hdL v' l).getD j 0)))
    (h2 : W'.rowIs B.go 3 l.length (fun j => .int .i64 ((opL v' l).getD j 0))) (h3 : W'.rowIs B.gv 3 61 (fun j => .int .i64 (v'.getD j 0))) : Sv B l v' T va vp SA W' := by
  have hn : ¬ (fun k => k = B.gh ∨ k = B.go ∨ k = B.gv) B.sp := by rintro (e | e | e); exact hB.sh e; exact hB.so e; exact hB.sv e
  have hsp := hc.block _ h.sp_lt hn
  have c := fun (j : Nat) (u : Value) (e : W.cell? ⟨B.sp, j, none⟩ = some u) => hc.cell (p := ⟨B.sp, j, none⟩) e hn
  have hh : ∀ k, ¬ B.H k → ¬ (fun k => k = B.gh ∨ k = B.go ∨ k = B.gv) k := fun k hk e => by
    rcases e with rfl | rfl | rfl
    · exact hk (.inr (.inr (.inl rfl)))
    · exact hk (.inr (.inr (.inr (.inl rfl))))
    · exact hk (.inr (.inr (.inr (.inr (.inl rfl)))))
  have ha := h.all
  have hs := h.sa
  exact ⟨c _ _ h.k0, c _ _ h.k1, c _ _ h.k2, c _ _ h.k3, c _ _ h.k4, c _ _ h.k5, c _ _ h.k6, c _ _ h.k7, c _ _ h.k8, fun j => (frozen_of hsp).trans (h.fz j), h.grp.chg hc (by rintro (e | e | e); exact hB.mh e; exact hB.mo e; exact hB.mv e) (fun k hk _ => by rintro (e | e | e); exact (hB.S k hk).2.1 e; exact (hB.S k hk).2.2.1 e; exact (hB.S k hk).2.2.2 e),
    h1, h2, h3, ha.chg hc (fun k hk _ => by have := hs k hk; rintro (e | e | e); exact this.2.2.1 e; exact this.2.2.2.1 e; exact this.2.2.2.2.1 e) (fun k e => hh k (h.oa k e).1), fun k hk => ⟨Nat.lt_of_lt_of_le (hs k hk).1 hc.size, (hs k hk).2⟩,
    h.prf.chg hc (fun _ h => h.elim) (fun k e => hh k (h.op k e)), h.oa, h.op, fun k hk => Nat.lt_of_lt_of_le (h.bS k hk) hc.size⟩
/-- what is turned is none of the solver's -/
theorem Sv.other {Tt : Nat → Prop} (h : Sv B l v T va vp SA W) (hc : Chg Tt W W') (h1 : ∀ k, Tt k → ¬ B.H k ∧ ¬ SA k ∧ va.ownBlock ≠ some k ∧ vp.ownBlock ≠ some k) : Sv B l v T va vp SA W' := by
  have n := fun (k : Nat) (hk : B.H k) (e : Tt k) => (h1 k e).1 hk
  have hsp := hc.block _ h.sp_lt (n _ (.inl rfl))
  have c := fun (j : Nat) (u : Value) (e : W.cell? ⟨B.sp, j, none⟩ = some u) => hc.cell (p := ⟨B.sp, j, none⟩) e (n _ (.inl rfl))
  exact ⟨c _ _ h.k0, c _ _ h.k1, c _ _ h.k2, c _ _ h.k3, c _ _ h.k4, c _ _ h.k5, c _ _ h.k6, c _ _ h.k7, c _ _ h.k8, fun j => (frozen_of hsp).trans (h.fz j), h.grp.chg hc (n _ (.inr (.inl rfl))) (fun k hk _ => n k (.inr (.inr (.inr (.inr (.inr hk)))))),
    h.held.of_block (hc.block _ h.held.lt (n _ (.inr (.inr (.inl rfl))))), h.opn.of_block (hc.block _ h.opn.lt (n _ (.inr (.inr (.inr (.inl rfl)))))), h.vals.of_block (hc.block _ h.vals.lt (n _ (.inr (.inr (.inr (.inr (.inl rfl))))))),
    h.all.chg hc (fun k hk _ e => (h1 k e).2.1 hk) (fun k hk e => (h1 k e).2.2.1 hk), fun k hk => ⟨Nat.lt_of_lt_of_le (h.sa k hk).1 hc.size, (h.sa k hk).2⟩, h.prf.chg hc (fun _ h => h.elim) (fun k hk e => (h1 k e).2.2.2 hk), h.oa, h.op, fun k hk => Nat.lt_of_lt_of_le (h.bS k hk) hc.size⟩
/-- a cell of the solver's own block turned: all but its fields -/
theorem Sv.mine (hB : B.Ok) (h : Sv B l v T va vp SA W) (hc : Chg (fun k => k = B.sp) W W') : Grp B.S W' B.mb l ∧ W'.rowIs B.gh 3 l.length (fun j => .int .i64 ((hdL v l).getD j 0)) ∧ W'.rowIs B.go 3 l.length (fun j => .int .i64 ((opL v l).getD j 0)) ∧ W'.rowIs B.gv 3 61 (fun j => .int .i64 (v.getD j 0)) ∧
    Mine kL 0 SA W' va T.all ∧ (∀ k, SA k → k < W'.heap.size ∧ k ≠ B.sp ∧ k ≠ B.gh ∧ k ≠ B.go ∧ k ≠ B.gv ∧ vp.ownBlock ≠ some k) ∧ Mine kS 0 NoB W' vp T.proof ∧ ∀ k, B.S k → k < W'.heap.size := by
  have ha := h.all
  have hs := h.sa
  exact ⟨h.grp.chg hc (fun e => hB.sm e.symm) (fun k hk _ => (hB.S k hk).1), h.held.of_block (hc.block _ h.held.lt (fun e => hB.sh e.symm)), h.opn.of_block (hc.block _ h.opn.lt (fun e => hB.so e.symm)), h.vals.of_block (hc.block _ h.vals.lt (fun e => hB.sv e.symm)),
    ha.chg hc (fun k hk _ => (hs k hk).2.1) (fun k e e2 => (h.oa k e).1 (.inl e2)), fun k hk => ⟨Nat.lt_of_lt_of_le (hs k hk).1 hc.size, (hs k hk).2⟩, h.prf.chg hc (fun _ h => h.elim) (fun k e e2 => h.op k e (.inl e2)), fun k hk => Nat.lt_of_lt_of_le (h.bS k hk) hc.size⟩
theorem cell_set {W : World} {b i j : Nat} {u x : Value} (h : i ≠ j) (e : W.cell? ⟨b, j, none⟩ = some u) : (W.setCell ⟨b, i, none⟩ x).cell? ⟨b, j, none⟩ = some u :=
  (World.cell?_setCell_other W ⟨b, i, none⟩ ⟨b, j, none⟩ x (fun q => h (congrArg Addr.off q))).trans e
theorem cell_set_self {W : World} {b i : Nat} {u x : Value} (e : W.cell? ⟨b, i, none⟩ = some u) : (W.setCell ⟨b, i, none⟩ x).cell? ⟨b, i, none⟩ = some x := World.cell?_setCell_same _ _ _ e
theorem Sv.setFuel (hB : B.Ok) (h : Sv B l v T va vp SA W) (f : Int) : Sv B l v { T with fuel := f } va vp SA (W.setCell ⟨B.sp, 7, none⟩ (.int .i64 f)) := by
  obtain ⟨q1, q2, q3, q4, q5, q5b, q6, q7⟩ := h.mine hB (Chg.setCell (T := fun k => k = B.sp) (p := ⟨B.sp, 7, none⟩) rfl (.int .i64 f))
  exact ⟨cell_set (by decide) h.k0, cell_set (by decide) h.k1, cell_set (by decide) h.k2, cell_set (by decide) h.k3, cell_set (by decide) h.k4, cell_set (by decide) h.k5, cell_set (by decide) h.k6, cell_set_self h.k7, cell_set (by decide) h.k8, fun j => by rw [World.frozen?_setCell]; exact h.fz j, q1, q2, q3, q4, q5, q5b, q6, h.oa, h.op, q7⟩
theorem Sv.setTr (hB : B.Ok) (h : Sv B l v T va vp SA W) (f : Int) : Sv B l v { T with tr := f } va vp SA (W.setCell ⟨B.sp, 8, none⟩ (.int .i64 f)) := by
  obtain ⟨q1, q2, q3, q4, q5, q5b, q6, q7⟩ := h.mine hB (Chg.setCell (T := fun k => k = B.sp) (p := ⟨B.sp, 8, none⟩) rfl (.int .i64 f))
  exact ⟨cell_set (by decide) h.k0, cell_set (by decide) h.k1, cell_set (by decide) h.k2, cell_set (by decide) h.k3, cell_set (by decide) h.k4, cell_set (by decide) h.k5, cell_set (by decide) h.k6, cell_set (by decide) h.k7, cell_set_self h.k8, fun j => by rw [World.frozen?_setCell]; exact h.fz j, q1, q2, q3, q4, q5, q5b, q6, h.oa, h.op, q7⟩
/-- the proof has grown, and stands in its field -/
theorem Sv.setProof {vp' : Value} {p' : List Stp} {W1 : World} (hB : B.Ok) (h : Sv B l v T va vp SA W) (hg : W.grownBy W1 vp.ownBlock) (hm : Mine kS 0 NoB W1 vp' p') (ho : ∀ k, vp'.ownBlock = some k → vp.ownBlock = some k ∨ W.heap.size ≤ k) :
    Sv B l v { T with proof := p' } va vp' SA (W1.setCell ⟨B.sp, 2, none⟩ vp') := by
  have hc : Chg (fun k => vp.ownBlock = some k) W W1 := Chg.grown hg (fun k e => .inl e)
  have hne : ∀ k, B.H k → vp.ownBlock ≠ some k := fun k hk e => h.op k e hk
  have c := fun (j : Nat) (u : Value) (e : W.cell? ⟨B.sp, j, none⟩ = some u) => hc.cell (p := ⟨B.sp, j, none⟩) e (hne _ (.inl rfl))
  have hop : ∀ k, vp'.ownBlock = some k → ¬ B.H k := fun k e hk => by
    rcases ho k e with h1 | h1
    · exact h.op k h1 hk
    · exact absurd (h.H_lt k hk) (by omega)
  have hc2 : Chg (fun k => k = B.sp) W1 (W1.setCell ⟨B.sp, 2, none⟩ vp') := Chg.setCell (T := fun k => k = B.sp) (p := ⟨B.sp, 2, none⟩) rfl _
  have hx : Chg (fun k => k = B.sp ∨ vp.ownBlock = some k) W (W1.setCell ⟨B.sp, 2, none⟩ vp') := (hc.mono (fun k e => .inr e)).trans (hc2.mono (fun k e => .inl e))
  have ha := h.all
  have hs := h.sa
  have hS : ∀ k, B.S k → B.H k := fun k hk => .inr (.inr (.inr (.inr (.inr hk))))
  have nn : ∀ k, B.H k → k ≠ B.sp → ¬ (k = B.sp ∨ vp.ownBlock = some k) := fun k hk h1 e => e.elim h1 (hne k hk)
  exact ⟨cell_set (by decide) (c _ _ h.k0), cell_set (by decide) (c _ _ h.k1), cell_set_self (c _ _ h.k2), cell_set (by decide) (c _ _ h.k3), cell_set (by decide) (c _ _ h.k4), cell_set (by decide) (c _ _ h.k5), cell_set (by decide) (c _ _ h.k6), cell_set (by decide) (c _ _ h.k7), cell_set (by decide) (c _ _ h.k8),
    fun j => by rw [World.frozen?_setCell]; exact (frozen_of (hc.block _ h.sp_lt (hne _ (.inl rfl)))).trans (h.fz j),
    h.grp.chg hx (nn _ (.inr (.inl rfl)) (fun e => hB.sm e.symm)) (fun k hk _ => nn k (hS k hk) (hB.S k hk).1),
    h.held.of_block (hx.block _ h.held.lt (nn _ (.inr (.inr (.inl rfl))) (fun e => hB.sh e.symm))), h.opn.of_block (hx.block _ h.opn.lt (nn _ (.inr (.inr (.inr (.inl rfl)))) (fun e => hB.so e.symm))), h.vals.of_block (hx.block _ h.vals.lt (nn _ (.inr (.inr (.inr (.inr (.inl rfl))))) (fun e => hB.sv e.symm))),
    ha.chg hx (fun k hk _ e => e.elim (hs k hk).2.1 (hs k hk).2.2.2.2.2) (fun k e e2 => e2.elim (fun e3 => (h.oa k e).1 (.inl e3)) (h.oa k e).2), fun k hk => ⟨Nat.lt_of_lt_of_le (hs k hk).1 hx.size, (hs k hk).2.1, (hs k hk).2.2.1, (hs k hk).2.2.2.1, (hs k hk).2.2.2.2.1, fun e => by
      rcases ho k e with h1 | h1
      · exact (hs k hk).2.2.2.2.2 h1
      · exact absurd (hs k hk).1 (by omega)⟩,
    hm.chg hc2 (fun _ h => h.elim) (fun k e e2 => hop k e (.inl e2)), fun k e => ⟨(h.oa k e).1, fun e2 => by
      rcases ho k e2 with h1 | h1
      · exact (h.oa k e).2 h1
      · exact absurd (ha.base_le e).2 (by omega)⟩, hop, fun k hk => Nat.lt_of_lt_of_le (h.bS k hk) hx.size⟩
/-- the clauses have grown, and stand in their field -/
theorem Sv.setAll {va' : Value} {a' : List Cls} {SA' : Nat → Prop} {W1 : World} (hB : B.Ok) (h : Sv B l v T va vp SA W) (hg : Chg (fun k => va.ownBlock = some k) W W1) (hm : Mine kL 0 SA' W1 va' a') (hs : ∀ k, SA' k → k < W1.heap.size ∧ k ≠ B.sp ∧ k ≠ B.gh ∧ k ≠ B.go ∧ k ≠ B.gv ∧ vp.ownBlock ≠ some k)
    (ho : ∀ k, va'.ownBlock = some k → va.ownBlock = some k ∨ W.heap.size ≤ k) : Sv B l v { T with all := a' } va' vp SA' (W1.setCell ⟨B.sp, 0, none⟩ va') := by
  have hne : ∀ k, B.H k → va.ownBlock ≠ some k := fun k hk e => (h.oa k e).1 hk
  have c := fun (j : Nat) (u : Value) (e : W.cell? ⟨B.sp, j, none⟩ = some u) => hg.cell (p := ⟨B.sp, j, none⟩) e (hne _ (.inl rfl))
  have hoa : ∀ k, va'.ownBlock = some k → ¬ B.H k ∧ vp.ownBlock ≠ some k := fun k e => by
    rcases ho k e with h1 | h1
    · exact h.oa k h1
    · exact ⟨fun hk => absurd (h.H_lt k hk) (by omega), fun e2 => absurd (h.prf.base_le e2).2 (by omega)⟩
  have hc2 : Chg (fun k => k = B.sp) W1 (W1.setCell ⟨B.sp, 0, none⟩ va') := Chg.setCell (T := fun k => k = B.sp) (p := ⟨B.sp, 0, none⟩) rfl _
  have hx : Chg (fun k => k = B.sp ∨ va.ownBlock = some k) W (W1.setCell ⟨B.sp, 0, none⟩ va') := (hg.mono (fun k e => .inr e)).trans (hc2.mono (fun k e => .inl e))
  have hS : ∀ k, B.S k → B.H k := fun k hk => .inr (.inr (.inr (.inr (.inr hk))))
  have nn : ∀ k, B.H k → k ≠ B.sp → ¬ (k = B.sp ∨ va.ownBlock = some k) := fun k hk h1 e => e.elim h1 (hne k hk)
  exact ⟨cell_set_self (c _ _ h.k0), cell_set (by decide) (c _ _ h.k1), cell_set (by decide) (c _ _ h.k2), cell_set (by decide) (c _ _ h.k3), cell_set (by decide) (c _ _ h.k4), cell_set (by decide) (c _ _ h.k5), cell_set (by decide) (c _ _ h.k6), cell_set (by decide) (c _ _ h.k7), cell_set (by decide) (c _ _ h.k8),
    fun j => by rw [World.frozen?_setCell]; exact (frozen_of (hg.block _ h.sp_lt (hne _ (.inl rfl)))).trans (h.fz j),
    h.grp.chg hx (nn _ (.inr (.inl rfl)) (fun e => hB.sm e.symm)) (fun k hk _ => nn k (hS k hk) (hB.S k hk).1),
    h.held.of_block (hx.block _ h.held.lt (nn _ (.inr (.inr (.inl rfl))) (fun e => hB.sh e.symm))), h.opn.of_block (hx.block _ h.opn.lt (nn _ (.inr (.inr (.inr (.inl rfl)))) (fun e => hB.so e.symm))), h.vals.of_block (hx.block _ h.vals.lt (nn _ (.inr (.inr (.inr (.inr (.inl rfl))))) (fun e => hB.sv e.symm))),
    hm.chg hc2 (fun k hk _ => (hs k hk).2.1) (fun k e e2 => (hoa k e).1 (.inl e2)), fun k hk => ⟨Nat.lt_of_lt_of_le (hs k hk).1 hc2.size, (hs k hk).2⟩,
    h.prf.chg hx (fun _ h => h.elim) (fun k e e2 => e2.elim (fun e3 => h.op k e (.inl e3)) (fun e3 => (h.oa k e3).2 e)), hoa, h.op, fun k hk => Nat.lt_of_lt_of_le (h.bS k hk) hx.size⟩
end
end Go.Proofs.Ytggfjfmgclcnlaa.Zb
