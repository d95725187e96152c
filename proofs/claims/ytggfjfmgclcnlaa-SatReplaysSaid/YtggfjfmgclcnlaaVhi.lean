/- Walk of sat.Solve. -/
import Derived.Test.YtggfjfmgclcnlaaVgb
import Derived.Laws.ResultCell
namespace Go.Proofs.Ytggfjfmgclcnlaa.Zb
open Go Go.RowKit Go.Shelf Go.Proofs.Ytggfjfmgclcnlaa.K Go.Proofs.Ytggfjfmgclcnlaa.G Go.Proofs.Ytggfjfmgclcnlaa.Z
set_option linter.unusedSimpArgs false
set_option linter.unusedVariables false
/-- what Solve returns -/
def SvEnd (w : World) (R : Ans) (e : Ending) (w' : World) : Prop :=
  ∃ Av cv Ap cp, e = .returned (.tuple #[.agg #[.bool R.holds, .slice Av R.values.length cv, .slice Ap R.proof.length cp], .int .i64 R.err]) ∧ R.values.length ≤ cv ∧ C G.bool Any w' Av R.values ∧ R.proof.length ≤ cp ∧ C kS Any w' Ap R.proof ∧ Below w.heap.size w w'
theorem zero_res (w : World) : (zeroValue 31).run Try.prog w = .ok (.agg #[.bool false, .slice none 0 0, .slice none 0 0]) w := by kernel_rfl
/-- a result in three cells of a block -/
structure ResC (W : World) (g : Nat) (x y z : Value) : Prop where
  c0 : W.cell? ⟨g, 0, none⟩ = some x
  c1 : W.cell? ⟨g, 1, none⟩ = some y
  c2 : W.cell? ⟨g, 2, none⟩ = some z
  f : ∀ j, W.frozen? ⟨g, j, none⟩ = false
theorem ResC.same {W W' : World} {g : Nat} {x y z : Value} (h : ResC W g x y z) (hb : W'.heap[g]? = W.heap[g]?) : ResC W' g x y z :=
  ⟨(World.cell?_of_block hb).trans h.c0, (World.cell?_of_block hb).trans h.c1, (World.cell?_of_block hb).trans h.c2, fun j => (frozen_of hb).trans (h.f j)⟩
theorem ResC.drew {W : World} {g : Nat} {x y z : Value} (h : ResC W g x y z) : ResC W.drew g x y z := h.same rfl
theorem ResC.store {W : World} {g : Nat} {x y z : Value} (h : ResC W g x y z) (a b c : Value) : (W.setCell ⟨g, 0, none⟩ a).cell? ⟨g, 1, none⟩ = some y ∧ ((W.setCell ⟨g, 0, none⟩ a).setCell ⟨g, 1, none⟩ b).cell? ⟨g, 2, none⟩ = some z ∧ (∀ j, (W.setCell ⟨g, 0, none⟩ a).frozen? ⟨g, j, none⟩ = false) ∧
    (∀ j, ((W.setCell ⟨g, 0, none⟩ a).setCell ⟨g, 1, none⟩ b).frozen? ⟨g, j, none⟩ = false) ∧ ResC (((W.setCell ⟨g, 0, none⟩ a).setCell ⟨g, 1, none⟩ b).setCell ⟨g, 2, none⟩ c) g a b c := by
  have f1 : ∀ j, (W.setCell ⟨g, 0, none⟩ a).frozen? ⟨g, j, none⟩ = false := fun j => by rw [World.frozen?_setCell]; exact h.f j
  have f2 : ∀ j, ((W.setCell ⟨g, 0, none⟩ a).setCell ⟨g, 1, none⟩ b).frozen? ⟨g, j, none⟩ = false := fun j => by rw [World.frozen?_setCell]; exact f1 j
  have c1 := cell_set (x := a) (show (0 : Nat) ≠ 1 by decide) h.c1
  have c2 := cell_set (x := a) (show (0 : Nat) ≠ 2 by decide) h.c2
  have c22 := cell_set (x := b) (show (1 : Nat) ≠ 2 by decide) c2
  have c0 := cell_set_self (x := a) h.c0
  exact ⟨c1, c22, f1, f2, cell_set (by decide) (cell_set (by decide) c0), cell_set (by decide) (cell_set_self c1), cell_set_self c22, fun j => by rw [World.frozen?_setCell]; exact f2 j⟩
theorem chg3 (W : World) (g : Nat) (a b c : Value) : Chg (fun k => k = g) W (((W.setCell ⟨g, 0, none⟩ a).setCell ⟨g, 1, none⟩ b).setCell ⟨g, 2, none⟩ c) :=
  ((Chg.setCell (T := fun k => k = g) (p := ⟨g, 0, none⟩) rfl _).trans (Chg.setCell (T := fun k => k = g) (p := ⟨g, 1, none⟩) rfl _)).trans (Chg.setCell (T := fun k => k = g) (p := ⟨g, 2, none⟩) rfl _)
theorem trimB_nil {l : List Cls} {p : List Stp} (h : (trimB l p).2 ≠ 0) : (trimB l p).1 = [] := by
  unfold trimB at h ⊢
  split at h
  · rename_i e
    rw [if_pos e]
  · exact absurd rfl h
theorem TrimEnd.any {w w' : World} {l : List Cls} {p : List Stp} {e : Ending} (h : TrimEnd w (trimB l p) e w') : ∃ A c, e = .returned (.tuple #[.slice A (trimB l p).1.length c, .int .i64 (trimB l p).2]) ∧ (trimB l p).1.length ≤ c ∧ C kS (fun k => w.heap.size ≤ k) w' A (trimB l p).1 ∧ Below w.heap.size w w' := by
  obtain ⟨h1, h2⟩ := h
  by_cases h0 : (trimB l p).2 = 0
  · rw [if_pos h0] at h1
    obtain ⟨A, c, e1, hm⟩ := h1
    exact ⟨A, c, by rw [h0]; exact e1, hm.read.2.1, hm.read.2.2.mono (fun k hk => hk.elim False.elim (fun e => (hm.base_le (show (Value.slice A (trimB l p).1.length c).ownBlock = some k by cases A with | none => cases e | some _ => simpa [Value.ownBlock] using e)).1)), h2⟩
  · rw [if_neg h0] at h1
    have hn := trimB_nil h0
    exact ⟨none, 0, by rw [hn]; exact h1, by rw [hn]; exact Nat.le_refl _, by rw [hn]; exact C.nil .., h2⟩
theorem repl_atoms {l : List Cls} {p : List Stp} {all : List Cls} (h : Repl l p all) (hl : ∀ c ∈ l, rightC c = true) : ∀ s ∈ p, -9223372036854775808 ≤ s.2.2 ∧ s.2.2 ≤ 9223372036854775807 := fun s hs => by
  obtain ⟨k, hk⟩ := List.mem_iff_getElem?.1 hs
  obtain ⟨c, _, h2⟩ := h.at_ k s hk
  obtain ⟨a, b, ha, hb, _, _, h3⟩ := step1_parts h2
  obtain ⟨t1, t2, _, _⟩ := resB_parts h3
  have hr := h.right hl _ (List.mem_of_mem_take (List.getElem_mem ha))
  have hlit := (right_iff.1 hr).1 _ t2
  have := hlit.2
  omega
theorem infoBo : (Try.prog.info? 4).map (fun i => (i.zero, i.size, i.bytes)) = some (some (.bool false), 1, 1) := by kernel_rfl
def vL (v : List Int) (a : Nat) : List Bool := (List.range a).map (fun a => decide (0 < v.getD a 0))
theorem vL_len (v : List Int) (a : Nat) : (vL v a).length = a := by simp [vL]
theorem vL_succ (v : List Int) (a : Nat) : vL v (a + 1) = vL v a ++ [decide (0 < v.getD a 0)] := by simp [vL, List.range_succ]
theorem one_bool {S : Nat → Prop} {w : World} {g : Nat} {t : TypeId} {x : Bool} (h : w.heap[g]? = some (.cells #[.bool x] t (0, 0))) (hS : S g) : C G.bool S w (some ⟨g, 0, none⟩) [x] :=
  ⟨by simp [maxLen], fun _ => ⟨g, 0, rfl, hS, (Array.getElem?_eq_some_iff.1 h).1, fun j y hj => by
    cases j with
    | succ j => simp at hj
    | zero =>
      simp only [List.getElem?_cons_zero, Option.some.injEq] at hj
      subst hj
      refine ⟨[.bool x], rfl, fun i u hu => ?_⟩
      cases i with
      | succ i => simp at hu
      | zero =>
        simp only [List.getElem?_cons_zero, Option.some.injEq] at hu
        subst hu
        simp [World.cell?, h]⟩⟩
theorem mine_bool {base : Nat} {S : Nat → Prop} {w : World} {v : Value} {xs : List Bool} (h : Mine G.bool base S w v xs) : Mine G.bool base NoB w v xs := by
  obtain ⟨A, cap, e, h1, h2, h3⟩ := h
  refine ⟨A, cap, e, h1, h2, h3.imp id ?_⟩
  rintro ⟨g, o, e1, e2, e3, e4, e5⟩
  exact ⟨g, o, e1, e2, e3, e4, fun j x hj => by
    obtain ⟨cs, hk, hc⟩ := e5 j x hj
    exact ⟨cs, hk, hc⟩⟩
/-- the state of the loop that reads the values: the result at res, the answer under way at n1; blocks from base on are its own -/
structure VaS (w : World) (base res n1 sp gv : Nat) (v : List Int) (W : World) (val : Value) (a : Nat) : Prop where
  out : Mine G.bool base NoB W val (vL v a)
  rc : ResC W n1 (.bool true) val (.slice none 0 0)
  res : ResC W res (.bool false) (.slice none 0 0) (.slice none 0 0)
  k6 : W.cell? ⟨sp, 6, none⟩ = some (.slice (some ⟨gv, 0, none⟩) 61 61)
  row : W.rowIs gv 3 61 (fun j => .int .i64 (v.getD j 0))
  bel : Below w.heap.size w W
  bse : base ≤ W.heap.size
theorem VaS.drew {w : World} {base res n1 sp gv : Nat} {v : List Int} {W : World} {val : Value} {a : Nat} (h : VaS w base res n1 sp gv v W val a) : VaS w base res n1 sp gv v W.drew val a :=
  ⟨h.out.below (Chg.below1 W), h.rc.drew, h.res.drew, h.k6, h.row, h.bel.trans ((Chg.below1 W).mono h.bel.size), h.bse⟩
theorem VaS.push {w : World} {base res n1 sp gv : Nat} {v : List Int} {W : World} {val : Value} {a : Nat} (h : VaS w base res n1 sp gv v W val a) (hl : n1 < base ∧ res < base ∧ sp < base ∧ gv < base) (hne : res ≠ n1 ∧ sp ≠ n1 ∧ gv ≠ n1) (hw : w.heap.size ≤ n1) (ha : a ≤ 1000) :
    ∃ A' c' w1, (Builtin.append_ #[28, 28] 28 #[val, .slice (some ⟨W.heap.size, 0, none⟩) 1 1]).run Try.prog (W.alloc (.cells #[.bool (decide (0 < v.getD a 0))] 4)) = .ok (.slice A' (a + 1) c') w1 ∧ w1.cell? ⟨n1, 1, none⟩ = some val ∧ w1.frozen? ⟨n1, 1, none⟩ = false ∧
      VaS w base res n1 sp gv v (w1.setCell ⟨n1, 1, none⟩ (.slice A' (a + 1) c')) (.slice A' (a + 1) c') (a + 1) := by
  have hwa : Below W.heap.size W (W.alloc (.cells #[.bool (decide (0 < v.getD a 0))] 4)) := (Below.refl _ _).alloc (Nat.le_refl _) _
  obtain ⟨A', n', c', w1, hrun, hn', hm, hg, ho⟩ := append_own (c := 1) (S := Any) (S' := fun k => k = W.heap.size) Try.underlying28 infoBo rfl (by decide) (by decide) ((h.out.below hwa).mono (fun _ h => h.elim)) (one_bool (alloc_new W (.cells #[.bool (decide (0 < v.getD a 0))] 4)) rfl)
    (fun k hk => ⟨trivial, fun e => by have := (h.out.base_le e).2; omega⟩) (by rw [vL_len]; simp; omega) (Nat.le_trans h.bse hwa.size)
  have hgc : Chg (fun k => val.ownBlock = some k) W w1 := (Chg.of_fresh hwa).trans (Chg.grown hg (fun k e => .inl e))
  have hno : ∀ k, k < base → ¬ val.ownBlock = some k := fun k hk e => by have := (h.out.base_le e).1; omega
  rw [← vL_succ] at hm hn'
  rw [vL_len] at hn'
  subst hn'
  have hrc := h.rc.same (hgc.block _ (lt_of_cell h.rc.c0) (hno _ hl.1))
  have hsc : Chg (fun k => k = n1) w1 (w1.setCell ⟨n1, 1, none⟩ (.slice A' (a + 1) c')) := Chg.setCell (T := fun k => k = n1) (p := ⟨n1, 1, none⟩) rfl _
  refine ⟨A', c', w1, hrun, hrc.c1, hrc.f 1, (mine_bool hm).chg hsc (fun _ h => h.elim) (fun k e e2 => by have := (hm.base_le e).1; omega), ⟨cell_set (by decide) hrc.c0, cell_set_self hrc.c1, cell_set (by decide) hrc.c2, fun j => by rw [World.frozen?_setCell]; exact hrc.f j⟩,
    (h.res.same (hgc.block _ (lt_of_cell h.res.c0) (hno _ hl.2.1))).same (hsc.block _ (Nat.lt_of_lt_of_le (lt_of_cell h.res.c0) hgc.size) hne.1), hsc.cell (hgc.cell h.k6 (hno _ hl.2.2.1)) hne.2.1, (h.row.of_block (hgc.block _ h.row.lt (hno _ hl.2.2.2))).of_block (hsc.block _ (Nat.lt_of_lt_of_le h.row.lt hgc.size) hne.2.2),
    (h.bel.trans (hgc.below h.bel.size (fun k e => by have := (h.out.base_le e).1; omega))).trans (hsc.below (Nat.le_trans h.bel.size hgc.size) (fun k e => by omega)), Nat.le_trans h.bse (Nat.le_trans hgc.size hsc.size)⟩
theorem solve_ret {W : World} {g : Nat} {a b c : Value} (h : ResC W g a b c) (tmps : Array Value) (h4 : tmps.getD 4 undef = .pointer (some ⟨g, 0, none⟩)) : (results Try.f11 tmps).run Try.prog W = .ok (.tuple #[.agg #[a, b, c], tmps.getD 5 undef]) W := by
  obtain ⟨c0, c1, c2, _⟩ := h
  rw [results_cell_tmp rfl, h4]
  go_simp
theorem blk_own (A : Option Addr) (n c : Nat) : blkOf (.slice A n c) = (Value.slice A n c).ownBlock := by cases A <;> simp [blkOf, Value.ownBlock]
/-- what the five makers of Solve make -/
def P5 (base : Nat) (l : List Cls) (Sl : Nat → Prop) : Nat → Value → World → Prop
  | 0, v, W => ∃ A c, v = .slice A l.length c ∧ Mine kL base Sl W (.slice A l.length c) l
  | 1, v, W => ∃ r, v = .map (some r) ∧ MapIs W r []
  | 2, v, W => ∃ g, v = .slice (some ⟨g, 0, none⟩) l.length l.length ∧ W.rowIs g 3 l.length (fun _ => .int .i64 0)
  | 3, v, W => ∃ g, v = .slice (some ⟨g, 0, none⟩) l.length l.length ∧ W.rowIs g 3 l.length (fun _ => .int .i64 0)
  | 4, v, W => ∃ g, v = .slice (some ⟨g, 0, none⟩) 61 61 ∧ W.rowIs g 3 61 (fun _ => .int .i64 0)
  | _, _, _ => True
theorem P5.mono {base : Nat} {l : List Cls} {Sl : Nat → Prop} : ∀ i v W W', P5 base l Sl i v W → Below W.heap.size W W' → P5 base l Sl i v W'
  | 0, v, W, W', ⟨A, c, e, h⟩, hb => ⟨A, c, e, h.below hb⟩
  | 1, v, W, W', ⟨r, e, h⟩, hb => ⟨r, e, h.below hb⟩
  | 2, v, W, W', ⟨g, e, h⟩, hb => ⟨g, e, h.of_block (hb.block _ h.lt)⟩
  | 3, v, W, W', ⟨g, e, h⟩, hb => ⟨g, e, h.of_block (hb.block _ h.lt)⟩
  | 4, v, W, W', ⟨g, e, h⟩, hb => ⟨g, e, h.of_block (hb.block _ h.lt)⟩
  | n + 5, v, W, W', _, _ => trivial
theorem make_zeros (n : Nat) (hn : n ≤ 1000000) (W : World) : (Instr.makeSlice 44 (.int .i64 (n : Int)) (.int .i64 (n : Int))).run Try.prog W = .ok (.slice (some ⟨W.heap.size, 0, none⟩) n n) (W.alloc (.cells (madeCells #[.int .i64 0] n) 3)) :=
  run_make_row' (P := Try.prog) 44 3 (.int .i64 0) 8 Try.underlying44 infoI rfl .i64 .i64 n (by omega) (by omega) W
/-- the state of Solve's loops: W3 the world ahead of them -/
structure BuS (w W3 : World) (mb go : Nat) (l : List Cls) (W : World) (L : List Cls) (i : Nat) : Prop where
  chg : Chg (fun k => k = mb ∨ k = go) W3 W
  grp : GrpM W3.heap.size W mb L
  opn : W.rowIs go 3 l.length (fun j => .int .i64 (if j < i then ((l.getD j []).length : Int) else 0))
  bel : Below w.heap.size w W
theorem BuS.setO {w W3 W : World} {mb go : Nat} {l L : List Cls} {i : Nat} (h : BuS w W3 mb go l W L i) (hne : mb ≠ go) (hgo : go < W3.heap.size) (hw : w.heap.size ≤ go) (hi : i < l.length) : BuS w W3 mb go l (W.setCell ⟨go, i, none⟩ (.int .i64 ((l.getD i []).length : Int))) L (i + 1) := by
  have hc : Chg (fun k => k = go) W (W.setCell ⟨go, i, none⟩ (.int .i64 ((l.getD i []).length : Int))) := Chg.setCell (T := fun k => k = go) (p := ⟨go, i, none⟩) rfl _
  refine ⟨h.chg.trans (hc.mono (fun k e => .inr e)), h.grp.chg hc hne (fun k e => by omega), (h.opn.set i _).congr (fun j hj => ?_), h.bel.setCell (p := ⟨go, i, none⟩) hw _⟩
  by_cases e : j = i
  · subst e
    rw [if_pos rfl, if_pos (by omega)]
  · rw [if_neg e]
    by_cases e2 : j < i
    · rw [if_pos e2, if_pos (by omega)]
    · rw [if_neg e2, if_neg (by omega)]
theorem BuS.sameL {w W3 W : World} {mb go : Nat} {l L L' : List Cls} {i : Nat} (h : BuS w W3 mb go l W L i) (he : ∀ y, occF y L' 0 = occF y L 0) : BuS w W3 mb go l W L' i := ⟨h.chg, h.grp.same he, h.opn, h.bel⟩
theorem BuS.drew {w W3 W : World} {mb go : Nat} {l L : List Cls} {i : Nat} (h : BuS w W3 mb go l W L i) : BuS w W3 mb go l W.drew L i := ⟨h.chg.trans (Chg.drew _ _), h.grp.chg (Chg.drew (fun _ => False) W) (fun e => e) (fun _ e => e.elim), h.opn, h.bel.trans ((Chg.below1 W).mono h.bel.size)⟩
/-- an entry more in the groups -/
theorem BuS.next {w W3 W w2 : World} {mb go : Nat} {l L L' : List Cls} {i : Nat} (h : BuS w W3 mb go l W L i) (hc : Chg (fun k => k = mb ∨ W3.heap.size ≤ k) W w2) (hg : GrpM W3.heap.size w2 mb L') (hgo : go < W3.heap.size) (hne : mb ≠ go) (hmb : w.heap.size ≤ mb) (hw3 : w.heap.size ≤ W3.heap.size) : BuS w W3 mb go l w2 L' i :=
  ⟨h.chg.trans' hc (fun k e => e.elim (fun e => .inl (.inl e)) .inr), hg, h.opn.of_block (hc.block _ h.opn.lt (fun e => e.elim (fun e => hne e.symm) (fun e => by omega))), h.bel.trans (hc.below h.bel.size (fun k e => e.elim (fun e => by omega) (fun e => by omega)))⟩
theorem heldZ (c : Cls) : heldN zerosV c = 0 := by
  unfold heldN
  rw [List.countP_eq_zero]
  intro x _
  have : lv zerosV x = 0 := by
    unfold lv zerosV
    rw [List.getD_eq_getElem?_getD, List.getElem?_replicate]
    split <;> split <;> rfl
  rw [this]
  decide
theorem openZ (c : Cls) : openN zerosV c = c.length := by
  unfold openN
  rw [List.countP_eq_length]
  intro x _
  have : lv zerosV x = 0 := by
    unfold lv zerosV
    rw [List.getD_eq_getElem?_getD, List.getElem?_replicate]
    split <;> split <;> rfl
  rw [this]
  rfl
theorem max_nat (m : Nat) (x : Int) : mxI (m : Int) ((x.natAbs : Nat) : Int) = ((max m x.natAbs : Nat) : Int) := by
  unfold mxI
  split <;> omega
attribute [local go_sem] max_i min_i Go.Proofs.YtggfjfmgclcnlaaW.PrintMore.max_two Go.Proofs.YtggfjfmgclcnlaaW.PrintMore.min_two
set_option maxRecDepth 100000 in
set_option maxHeartbeats 8000000 in
theorem solve_main (Sl : Nat → Prop) (Al : Option Addr) (cl : Nat) (l : List Cls) (fuel : Int) (w : World) (hl : C kL Sl w Al l) (hcl : l.length ≤ cl) (h0 : checkL l = 0) (hf0 : 0 ≤ fuel) (hf1 : fuel ≤ 100000) (hSl : ∀ k, Sl k → k < w.heap.size) :
    Calls Try.prog 11 #[.slice Al l.length cl, .int .i64 fuel] w (SvEnd w (solveB l fuel)) := by
  obtain ⟨h5, hr⟩ := checkL_ok h0
  have hb0 : Below w.heap.size w (w.alloc (.cells #[.bool false, .slice none 0 0, .slice none 0 0] 31)) := (Below.refl _ _).alloc (Nat.le_refl _) _
  have HC := Lib.hid (check_calls (hl.below hb0) hcl (by omega) (fun c hc => Nat.le_trans (right_len (hr c hc)) (by decide)))
  rw [h0] at HC
  obtain ⟨R, hR⟩ : ∃ R, solveB l fuel = R := ⟨_, rfl⟩
  rw [hR]
  have HR := Lib.hid hR
  have HB0 := Lib.hid hb0
  have HL := Lib.hid hl
  have hlm : l.length ≤ 9223372036854775807 := by omega
  have fu0 : decide (fuel < 0) = false := decide_eq_false (by omega)
  have fu1 : decide (100000 < fuel) = false := decide_eq_false (by omega)
  have fu2 : ¬ fuel < 0 := by omega
  have fu3 : ¬ 100000 < fuel := by omega
  have HRc : Hid (∀ W, Below (w.alloc (.cells #[.bool false, .slice none 0 0, .slice none 0 0] 31)).heap.size (w.alloc (.cells #[.bool false, .slice none 0 0, .slice none 0 0] 31)) W → ResC W w.heap.size (.bool false) (.slice none 0 0) (.slice none 0 0)) := Lib.hid (fun W hb =>
    ResC.same ⟨cells_at w #[.bool false, .slice none 0 0, .slice none 0 0] 31 _ _ rfl, cells_at w #[.bool false, .slice none 0 0, .slice none 0 0] 31 _ _ rfl, cells_at w #[.bool false, .slice none 0 0, .slice none 0 0] 31 _ _ rfl, fun j => frozen_at w _ _ _ _ rfl⟩ (hb.block _ (by simp)))
  clear hR hl hb0
  go_enter Try.func11, Try.ntmps11
  go_wp2_with fail
  refine HC.out.mono ?_
  rintro e w1 ⟨rfl, hb1⟩
  have HB1 := Lib.hid (HB0.out.trans (hb1.mono HB0.out.size))
  have HRc1 := Lib.hid (HRc.out _ hb1)
  have HL1 := Lib.hid (HL.out.below HB1.out)
  clear hb1 HC HRc HB0
  go_upto_region 6 with fail
  refine wp_region_any (by kernel_rfl) ?_
  show wpAny _ _ _ _ 16 _ _ _
  refine take5 (i := 0) (v := ?_) rfl (by kernel_rfl) (by kernel_rfl) (by kernel_rfl) (fun _ _ _ h => h) (by rfl) ?_ ?_
  rotate_left
  · (intro w; go_simp) <;> with_reducible rfl
  try simp only [Act.put, List.setIfInBounds_toArray, List.set_cons_zero, List.set_cons_succ]
  refine take5 (i := 2) (v := ?_) rfl (by kernel_rfl) (by kernel_rfl) (by kernel_rfl) (fun _ _ _ h => h) (by rfl) ?_ ?_
  rotate_left
  · (intro w; go_simp) <;> with_reducible rfl
  try simp only [Act.put, List.setIfInBounds_toArray, List.set_cons_zero, List.set_cons_succ]
  refine take5 (i := 3) (v := ?_) rfl (by kernel_rfl) (by kernel_rfl) (by kernel_rfl) (fun _ _ _ h => h) (by rfl) ?_ ?_
  rotate_left
  · (intro w; go_simp) <;> with_reducible rfl
  try simp only [Act.put, List.setIfInBounds_toArray, List.set_cons_zero, List.set_cons_succ]
  refine take5 (i := 5) (v := ?_) rfl (by kernel_rfl) (by kernel_rfl) (by kernel_rfl) (fun _ _ _ h => h) (by rfl) ?_ ?_
  rotate_left
  · (intro w; go_simp) <;> with_reducible rfl
  try simp only [Act.put, List.setIfInBounds_toArray, List.set_cons_zero, List.set_cons_succ]
  refine take5 (i := 6) (v := ?_) rfl (by kernel_rfl) (by kernel_rfl) (by kernel_rfl) (fun _ _ _ h => h) (by rfl) ?_ ?_
  rotate_left
  · (intro w; go_simp) <;> with_reducible rfl
  try simp only [Act.put, List.setIfInBounds_toArray, List.set_cons_zero, List.set_cons_succ]
  refine take5 (i := 8) (v := ?_) rfl (by kernel_rfl) (by kernel_rfl) (by kernel_rfl) (fun _ _ _ h => h) (by rfl) ?_ ?_
  rotate_left
  · (intro w; go_simp) <;> with_reducible rfl
  try simp only [Act.put, List.setIfInBounds_toArray, List.set_cons_zero, List.set_cons_succ]
  refine take5 (i := 9) (v := ?_) rfl (by kernel_rfl) (by kernel_rfl) (by kernel_rfl) (fun _ _ _ h => h) (by rfl) ?_ ?_
  rotate_left
  · (intro w; go_simp) <;> with_reducible rfl
  try simp only [Act.put, List.setIfInBounds_toArray, List.set_cons_zero, List.set_cons_succ]
  refine take5 (i := 12) (v := ?_) rfl (by kernel_rfl) (by kernel_rfl) (by kernel_rfl) (fun _ _ _ h => h) (by rfl) ?_ ?_
  rotate_left
  · (intro w; go_simp) <;> with_reducible rfl
  try simp only [Act.put, List.setIfInBounds_toArray, List.set_cons_zero, List.set_cons_succ]
  have HB2 := Lib.hid (HB1.out.trans ((Chg.below1 w1).mono HB1.out.size))
  have HL2 := Lib.hid (HL.out.below HB2.out)
  have HRc2 : Hid (ResC w1.drew w.heap.size (.bool false) (.slice none 0 0) (.slice none 0 0)) := Lib.hid (HRc1.out.same rfl)
  clear HB1 HL1 HRc1
  have hmk := make_zeros l.length (by omega)
  have hmk61 : ∀ W : World, (Instr.makeSlice 44 (.int .i64 61) (.int .i64 61)).run Try.prog W = .ok (.slice (some ⟨W.heap.size, 0, none⟩) 61 61) (W.alloc (.cells (madeCells #[.int .i64 0] 61) 3)) := make_zeros 61 (by decide)
  refine bag5' (w0 := w1.drew) (PP := P5 w.heap.size l Sl) (by rfl) (by rfl) (by intro b1 b2 b3 b4 b5; cases b1 <;> cases b2 <;> cases b3 <;> cases b4 <;> cases b5 <;> kernel_rfl) P5.mono ?_ ?_ ?_ ?_ ?_ ?_
  · intro X W hW K hk
    refine wpOp_step rfl (fun K' hK' => ?_)
    simp only [F5, Act.put, List.setIfInBounds_toArray, List.set_cons_zero, List.set_cons_succ]
    rw [if_pos (by rfl)]
    go_simp
    refine (clone_cls (HL2.out.below hW) (by omega)).mono ?_
    rintro e w9 ⟨A, c, rfl, hm, hb⟩
    have hq := hk _ _ hb ⟨A, c, rfl, hm.lower (Nat.le_trans HB2.out.size hW.size)⟩ (fun k hk => hm.base_le (by rw [← blk_own]; exact hk))
    simp only [F5, Act.put, List.setIfInBounds_toArray, List.set_cons_zero, List.set_cons_succ] at hq
    exact hK' _ _ hq
  · intro X W hW K hk
    refine wpOp_step rfl (fun K' hK' => ?_)
    simp only [F5, Act.put, List.setIfInBounds_toArray, List.set_cons_zero, List.set_cons_succ]
    rw [if_pos (by rfl)]
    go_simp
    have hq := hk (.map (some W.heap.size)) (W.alloc (.map #[] 0)) ((Below.refl _ _).alloc (Nat.le_refl _) _) ⟨_, rfl, MapIs.made W⟩ (fun k hk => by cases hk; exact ⟨Nat.le_refl _, by simp⟩)
    simp only [F5, Act.put, List.setIfInBounds_toArray, List.set_cons_zero, List.set_cons_succ] at hq
    exact hK' _ _ hq
  · intro X W hW K hk
    refine wpOp_step rfl (fun K' hK' => ?_)
    simp only [F5, Act.put, List.setIfInBounds_toArray, List.set_cons_zero, List.set_cons_succ]
    rw [if_pos (by rfl)]
    go_simp
    have hq := hk _ (W.alloc (.cells (madeCells #[.int .i64 0] l.length) 3)) ((Below.refl _ _).alloc (Nat.le_refl _) _) ⟨W.heap.size, rfl, World.rowIs_made W (.int .i64 0) l.length 3⟩ (fun k hk => by cases hk; exact ⟨Nat.le_refl _, by simp⟩)
    simp only [F5, Act.put, List.setIfInBounds_toArray, List.set_cons_zero, List.set_cons_succ] at hq
    exact hK' _ _ hq
  · intro X W hW K hk
    refine wpOp_step rfl (fun K' hK' => ?_)
    simp only [F5, Act.put, List.setIfInBounds_toArray, List.set_cons_zero, List.set_cons_succ]
    rw [if_pos (by rfl)]
    go_simp
    have hq := hk _ (W.alloc (.cells (madeCells #[.int .i64 0] l.length) 3)) ((Below.refl _ _).alloc (Nat.le_refl _) _) ⟨W.heap.size, rfl, World.rowIs_made W (.int .i64 0) l.length 3⟩ (fun k hk => by cases hk; exact ⟨Nat.le_refl _, by simp⟩)
    simp only [F5, Act.put, List.setIfInBounds_toArray, List.set_cons_zero, List.set_cons_succ] at hq
    exact hK' _ _ hq
  · intro X W hW K hk
    refine wpOp_step rfl (fun K' hK' => ?_)
    simp only [F5, Act.put, List.setIfInBounds_toArray, List.set_cons_zero, List.set_cons_succ]
    rw [if_pos (by rfl)]
    go_simp
    have hq := hk _ (W.alloc (.cells (madeCells #[.int .i64 0] 61) 3)) ((Below.refl _ _).alloc (Nat.le_refl _) _) ⟨W.heap.size, rfl, World.rowIs_made W (.int .i64 0) 61 3⟩ (fun k hk => by cases hk; exact ⟨Nat.le_refl _, by simp⟩)
    simp only [F5, Act.put, List.setIfInBounds_toArray, List.set_cons_zero, List.set_cons_succ] at hq
    exact hK' _ _ hq
  · intro X W hW hp hlb hdis
    obtain ⟨Aa, ca, ea, hma⟩ := hp 0 (by decide)
    obtain ⟨mb, em, hmm⟩ := hp 1 (by decide)
    obtain ⟨gh, e2, hrh⟩ := hp 2 (by decide)
    obtain ⟨go, e3, hro⟩ := hp 3 (by decide)
    obtain ⟨gv, e4, hrv⟩ := hp 4 (by decide)
    have b1 := hlb 1 mb (by rw [em]; rfl)
    have b2 := hlb 2 gh (by rw [e2]; rfl)
    have b3 := hlb 3 go (by rw [e3]; rfl)
    have b4 := hlb 4 gv (by rw [e4]; rfl)
    have n12 : mb ≠ gh := fun e => hdis 1 2 (by decide) mb (by rw [em]; rfl) (by rw [e2, e]; rfl)
    have n13 : mb ≠ go := fun e => hdis 1 3 (by decide) mb (by rw [em]; rfl) (by rw [e3, e]; rfl)
    have n14 : mb ≠ gv := fun e => hdis 1 4 (by decide) mb (by rw [em]; rfl) (by rw [e4, e]; rfl)
    have n23 : gh ≠ go := fun e => hdis 2 3 (by decide) gh (by rw [e2]; rfl) (by rw [e3, e]; rfl)
    have n24 : gh ≠ gv := fun e => hdis 2 4 (by decide) gh (by rw [e2]; rfl) (by rw [e4, e]; rfl)
    have n34 : go ≠ gv := fun e => hdis 3 4 (by decide) go (by rw [e3]; rfl) (by rw [e4, e]; rfl)
    have hown : ∀ k, (Value.slice Aa l.length ca).ownBlock = some k → w1.drew.heap.size ≤ k ∧ k < W.heap.size ∧ k ≠ mb ∧ k ≠ gh ∧ k ≠ go ∧ k ≠ gv := fun k hk => by
      rw [← blk_own, ← ea] at hk
      have := hlb 0 k hk
      exact ⟨this.1, this.2, fun e => hdis 0 1 (by decide) k hk (by rw [em, e]; rfl), fun e => hdis 0 2 (by decide) k hk (by rw [e2, e]; rfl), fun e => hdis 0 3 (by decide) k hk (by rw [e3, e]; rfl), fun e => hdis 0 4 (by decide) k hk (by rw [e4, e]; rfl)⟩
    rw [ea, em, e2, e3, e4]
    clear hp hlb hdis ea em e2 e3 e4 X hmk hmk61
    have HBk := Lib.hid (And.intro b1 (And.intro b2 (And.intro b3 (And.intro b4 (And.intro n12 (And.intro n13 (And.intro n14 (And.intro n23 (And.intro n24 n34)))))))))
    have HOw := Lib.hid hown
    have HMa := Lib.hid (And.intro hma (And.intro hmm (And.intro hrh (And.intro hro hrv))))
    have HW := Lib.hid hW
    clear b1 b2 b3 b4 n12 n13 n14 n23 n24 n34 hown hma hmm hrh hro hrv hW
    refine wpAny_all (rs := [13]) (by kernel_rfl) (by simp) (fun i hi => ?_)
    obtain rfl := List.mem_singleton.1 hi
    refine wpOp_step rfl (fun K' hK' => ?_)
    try simp only [F5, Act.put, List.setIfInBounds_toArray, List.set_cons_zero, List.set_cons_succ]
    rw [if_pos (by rfl)]
    go_simp
    refine hK' _ _ ?_
    clear hK' K' hi
    refine wpAny_all (rs := [14]) (by kernel_rfl) (by simp) (fun i hi => ?_)
    obtain rfl := List.mem_singleton.1 hi
    refine wpOp_step rfl (fun K' hK' => ?_)
    try simp only [F5, Act.put, List.setIfInBounds_toArray, List.set_cons_zero, List.set_cons_succ]
    rw [if_pos (by rfl)]
    go_simp
    refine hK' _ _ ?_
    clear hK' K' hi
    refine wpAny_all (rs := [15]) (by kernel_rfl) (by simp) (fun i hi => ?_)
    obtain rfl := List.mem_singleton.1 hi
    refine wpOp_step rfl (fun K' hK' => ?_)
    try simp only [F5, Act.put, List.setIfInBounds_toArray, List.set_cons_zero, List.set_cons_succ]
    rw [if_pos (by rfl)]
    go_simp
    refine hK' _ _ ?_
    clear hK' K' hi
    refine ⟨by kernel_rfl, ?_⟩
    obtain ⟨x1, x2, x3, x4, x5⟩ := HMa.out
    obtain ⟨b1, b2, b3, b4, n12, n13, n14, n23, n24, n34⟩ := HBk.out
    have hbW : Below W.heap.size W (W.alloc (.cells #[.slice Aa l.length ca, .int .i64 (l.length : Int), .slice none 0 0, .map (some mb), .slice (some ⟨gh, 0, none⟩) l.length l.length, .slice (some ⟨go, 0, none⟩) l.length l.length, .slice (some ⟨gv, 0, none⟩) 61 61, .int .i64 fuel, .int .i64 0] 74)) := (Below.refl _ _).alloc (Nat.le_refl _) _
    have hcs := fun j => cells_at W #[.slice Aa l.length ca, .int .i64 (l.length : Int), .slice none 0 0, .map (some mb), .slice (some ⟨gh, 0, none⟩) l.length l.length, .slice (some ⟨go, 0, none⟩) l.length l.length, .slice (some ⟨gv, 0, none⟩) 61 61, .int .i64 fuel, .int .i64 0] 74 _ j rfl
    have hfz := fun j => frozen_at W #[.slice Aa l.length ca, .int .i64 (l.length : Int), .slice none 0 0, .map (some mb), .slice (some ⟨gh, 0, none⟩) l.length l.length, .slice (some ⟨go, 0, none⟩) l.length l.length, .slice (some ⟨gv, 0, none⟩) 61 61, .int .i64 fuel, .int .i64 0] 74 _ j rfl
    have hsz : W.heap.size < (W.alloc (.cells #[.slice Aa l.length ca, .int .i64 (l.length : Int), .slice none 0 0, .map (some mb), .slice (some ⟨gh, 0, none⟩) l.length l.length, .slice (some ⟨go, 0, none⟩) l.length l.length, .slice (some ⟨gv, 0, none⟩) 61 61, .int .i64 fuel, .int .i64 0] 74)).heap.size := by simp
    have hbw3 := (HB2.out.trans (HW.out.mono HB2.out.size)).trans (hbW.mono (Nat.le_trans HB2.out.size HW.out.size))
    have hrc3 := (HRc2.out.same (HW.out.block _ (by have := HRc2.out.c0; exact lt_of_cell this))).same (hbW.block _ (Nat.lt_of_lt_of_le (lt_of_cell HRc2.out.c0) HW.out.size))
    have hnw : w.heap.size < w1.drew.heap.size := lt_of_cell HRc2.out.c0
    generalize W.alloc (.cells #[.slice Aa l.length ca, .int .i64 (l.length : Int), .slice none 0 0, .map (some mb), .slice (some ⟨gh, 0, none⟩) l.length l.length, .slice (some ⟨go, 0, none⟩) l.length l.length, .slice (some ⟨gv, 0, none⟩) 61 61, .int .i64 fuel, .int .i64 0] 74) = W3 at hbW hcs hfz hsz hbw3 hrc3 ⊢
    have hsn : ∀ k, k < W.heap.size → k ≠ W.heap.size := fun k hk => Nat.ne_of_lt hk
    have HSt : Hid (∀ V, Chg (fun k => k = mb ∨ k = go) W3 V → V.cell? ⟨W.heap.size, 3, none⟩ = some (.map (some mb)) ∧ V.cell? ⟨W.heap.size, 5, none⟩ = some (.slice (some ⟨go, 0, none⟩) l.length l.length)) := Lib.hid (fun V hc => ⟨hc.cell (p := ⟨W.heap.size, 3, none⟩) (hcs 3) (fun e => e.elim (fun e => hsn _ b1.2 e.symm) (fun e => hsn _ b3.2 e.symm)), hc.cell (p := ⟨W.heap.size, 5, none⟩) (hcs 5) (fun e => e.elim (fun e => hsn _ b1.2 e.symm) (fun e => hsn _ b3.2 e.symm))⟩)
    have HB0 : Hid (BuS w W3 mb go l W3 (l.take 0) 0) := Lib.hid ⟨Chg.refl _ _, by rw [List.take_zero]; exact GrpM.start (x2.below hbW), (x4.of_block (hbW.block _ x4.lt)).congr (fun j hj => by rw [if_neg (Nat.not_lt_zero _)]), hbw3⟩
    have hwn := HB2.out.size
    have Hb : Hid (mb < W3.heap.size ∧ go < W3.heap.size ∧ w.heap.size ≤ go ∧ mb ≠ go ∧ w.heap.size ≤ mb ∧ w.heap.size ≤ W3.heap.size) := Lib.hid (by omega)
    clear hwn
    have H3 := Lib.hid (And.intro hcs (And.intro hfz (And.intro hbW (And.intro hbw3 (And.intro hrc3 (And.intro hsz (And.intro hnw (Nat.ne_of_gt b1.2))))))))
    have HMa3 := Lib.hid (And.intro ((x1.lower (Nat.zero_le _)).below hbW) (And.intro (x3.of_block (hbW.block _ x3.lt)) (x5.of_block (hbW.block _ x5.lt))))
    clear HMa
    clear hcs hfz hbW hbw3 hrc3 hsn x1 x2 x3 x4 x5 b1 b2 b3 b4 n12 n13 n14 n23 n24 n34 hsz hnw
    generalize W.heap.size = sp at *
    go_wp2_with fail
    have HMo : Hid ((l.drop 0).foldl mostC 0 = mostB l) := Lib.hid rfl
    have Hr := Lib.hid hr
    clear hr
    go_loopg [8, 49] l.length (fun gg v8 v49 wr => ∃ (i m : Nat), v8 = .int .i64 m ∧ v49 = .int .i64 i ∧ i ≤ l.length ∧ l.length - i ≤ gg ∧ m ≤ 60 ∧ Hid ((l.drop i).foldl mostC m = mostB l) ∧ Hid (BuS w W3 mb go l wr (l.take i) i))
    case atStart => exact ⟨0, 0, rfl, rfl, by omega, by omega, by omega, HMo, HB0⟩
    case round =>
      clear HB0 HMo
      obtain ⟨i, m, rfl, rfl, hi, hgg, hm60, HM, HX⟩ := hrel
      by_cases hlt : i < l.length
      · have hltz : (i : Int) < (l.length : Int) := by omega
        have hi0 : (0 : Int) ≤ (i : Int) := by omega
        have Hlt := Lib.hid hlt
        obtain ⟨b6, o6, A6, c6, rfl, hb6, q6, hl6, hC6⟩ := cls_at HL.out i hlt
        have q6' := (HX.out.bel.cell (p := ⟨b6, o6 + i, none⟩) hb6).trans q6
        have k5 := (HSt.out _ HX.out.chg).2
        have co := HX.out.opn.cell hlt
        have fo := HX.out.opn.frozen i
        have HX1 := Lib.hid (HX.out.setO Hb.out.2.2.2.1 Hb.out.2.1 Hb.out.2.2.1 hlt)
        have hM := HM.out
        rw [List.drop_eq_getElem_cons hlt, List.foldl_cons] at hM
        have hrc := Hr.out _ (List.getElem_mem hlt)
        rw [getD_at hlt] at HX1
        have hc60 := right_len hrc
        have HC6 := Lib.hid hC6
        have Hli := Lib.hid (right_iff.1 hrc).1
        obtain ⟨c, hcc⟩ : ∃ c, l[i]'hlt = c := ⟨_, rfl⟩
        have HTk : Hid (l.take (i + 1) = l.take i ++ [c]) := Lib.hid (by rw [← List.take_append_getElem hlt, hcc])
        rw [hcc] at HX1 hM q6' HC6 Hli hc60
        have hclm : c.length ≤ 9223372036854775807 := by omega
        have HM1 : Hid ((l.drop (i + 1)).foldl mostC (mostC m (c.drop 0)) = mostB l) := Lib.hid hM
        clear hM HM HX q6 hl6 hC6 hrc hcc hlt
        generalize (if i < i then ((l.getD i []).length : Int) else 0) = y0 at co
        have HX2 : Hid (BuS w W3 mb go l (wr.setCell ⟨go, i, none⟩ (.int .i64 (c.length : Int))) (l.take i ++ [c.take 0]) (i + 1)) := Lib.hid (HX1.out.sameL (fun y => by rw [List.take_zero]; exact occ_nil y _))
        clear HX1
        go_wp2_with fail
        clear co fo k5 q6'
        generalize wr.setCell ⟨go, i, none⟩ (.int .i64 (c.length : Int)) = wr1 at HX2 ⊢
        go_loopg [8, 64] c.length (fun gg v8 v64 wr2 => ∃ (j m2 : Nat), v8 = .int .i64 m2 ∧ v64 = .int .i64 j ∧ j ≤ c.length ∧ c.length - j ≤ gg ∧ m2 ≤ 60 ∧ Hid ((l.drop (i + 1)).foldl mostC (mostC m2 (c.drop j)) = mostB l) ∧ Hid (BuS w W3 mb go l wr2 (l.take i ++ [c.take j]) (i + 1)))
        case atStart => exact ⟨0, m, rfl, rfl, by omega, by omega, hm60, HM1, HX2⟩
        case round =>
          clear HX2 HM1
          obtain ⟨j, m2, rfl, rfl, hj, hg2, hm2, HM2, HX3⟩ := hrel
          by_cases hlt2 : j < c.length
          · have hltz2 : (j : Int) < (c.length : Int) := by omega
            have hj0 : (0 : Int) ≤ (j : Int) := by omega
            have Hlt2 := Lib.hid hlt2
            obtain ⟨b7, o7, rfl, hb7, q7⟩ := int_at HC6.out j hlt2
            have q7' := (HX3.out.bel.cell (p := ⟨b7, o7 + j, none⟩) hb7).trans q7
            have k3 := (HSt.out _ HX3.out.chg).1
            have hli := Hli.out _ (List.getElem_mem hlt2)
            have hM := HM2.out
            rw [List.drop_eq_getElem_cons hlt2] at hM
            have hst := fun y => occ_step y (l.take i) c j hlt2
            rw [List.length_take, Nat.min_eq_left (Nat.le_of_lt Hlt.out)] at hst
            generalize c[j]'hlt2 = x at q7 q7' hli hM hst
            obtain ⟨x0, x1, x2⟩ := hli
            have HM3 : Hid ((l.drop (i + 1)).foldl mostC (mostC (max m2 x.natAbs) (c.drop (j + 1))) = mostB l) := Lib.hid hM
            have hm3 : max m2 x.natAbs ≤ 60 := by omega
            have ea : atm x = ((x.natAbs : Nat) : Int) := by unfold atm; split <;> omega
            have HAt := Lib.hid (fun (V : World) => atom_calls x V (by omega) (by omega))
            rw [ea] at HAt
            have hmx := max_nat m2 x
            have HD := HX3.out.drew
            obtain ⟨A0, n0, c0, A', n', c', v1, v2, hlk, hrun, hmu, hch, hv1, _, hnew⟩ := HD.grp.push x i (Nat.le_trans (Nat.le_refl _) (HD.chg.size)) Hb.out.1 (fun y => by
              have := occF_len_le y (l.take i ++ [c.take j]) 0 (fun d hd => (List.mem_append.1 hd).elim (fun h => right_len (Hr.out d (List.mem_of_mem_take h))) (fun h => by rw [List.mem_singleton.1 h, List.length_take]; omega))
              rw [List.length_append, List.length_take] at this
              simp only [List.length_singleton] at this
              omega)
            have lk1 := hlk wr.drew rfl
            have hbl : (wr.alloc (.cells #[.int .i64 (i : Int)] 3)).drew.heap[mb]? = wr.heap[mb]? := Below.heap_alloc wr _ mb (Nat.lt_of_lt_of_le Hb.out.1 HX3.out.chg.size)
            have lk2 := hlk (wr.alloc (.cells #[.int .i64 (i : Int)] 3)).drew hbl
            have k3a : (wr.alloc (.cells #[.int .i64 (i : Int)] 3)).cell? ⟨sp, 3, none⟩ = some (.map (some mb)) := (cell_old _ _ _ _ (lt_of_cell k3)).trans k3
            have hrun' : (Builtin.append_ #[44, 44] 44 #[.slice A0 n0 c0, .slice (some ⟨wr.heap.size, 0, none⟩) 1 1]).run Try.prog (wr.drew.alloc (.cells #[.int .i64 (i : Int)] 3)) = .ok (.slice A' n' c') v1 := hrun
            have HRun := Lib.hid hrun'
            have HX4 := Lib.hid (HD.next hch (hnew (l.take i ++ [c.take (j + 1)]) hst) Hb.out.2.1 Hb.out.2.2.2.1 Hb.out.2.2.2.2.1 Hb.out.2.2.2.2.2)
            have spl := H3.out.2.2.2.2.2.1
            have k3v1 : v1.cell? ⟨sp, 3, none⟩ = some (.map (some mb)) := (World.cell?_of_block (a := ⟨sp, 3, none⟩) (hv1 sp spl H3.out.2.2.2.2.2.2.2)).trans k3
            have k3v2 : v2.cell? ⟨sp, 3, none⟩ = some (.map (some mb)) := (HSt.out _ HX4.out.chg).1
            clear hM HM2 hlk hrun hrun' hch hnew HD hst q7 hbl ea HX3 hlt2 hv1 spl
            go_upto_region 15 with fail
            go_region_held3 (fun W' => W'.cell? ⟨sp, 3, none⟩ = some (.map (some mb))) (first | exact k3v1 | exact k3v2 | exact k3a | go_keep)
              (first
                | (rw [if_pos (by rfl)]
                   refine wp_append_run _ _ _ rfl _ _ rfl rfl _ _ HRun.out ?_)
                | fail)
            all_goals
              clear k3 k3a k3v1 lk1 lk2 hmu
              go_wp2_with fail
              refine (HAt.out _).mono ?_
              rintro e v3 ⟨rfl, rfl⟩
              go_wp2
              go_roundg (c.length - (j + 1))
              case measure => omega
              case rel => exact ⟨j + 1, max m2 x.natAbs, by rw [← hmx], by go_num, Hlt2.out, Nat.le_refl _, hm3, HM3, HX4⟩
          · have hltz2 : ¬ (j : Int) < (c.length : Int) := by omega
            have hje : j = c.length := by omega
            have hM := HM2.out
            rw [List.drop_eq_nil_of_le (by omega)] at hM
            have HM3 : Hid ((l.drop (i + 1)).foldl mostC m2 = mostB l) := Lib.hid hM
            have HX4 : Hid (BuS w W3 mb go l wr (l.take (i + 1)) (i + 1)) := Lib.hid (HX3.out.sameL (fun y => by rw [HTk.out, hje, List.take_length]))
            clear hM HM2 HX3 hje hlt2
            go_wp2
            go_roundg (l.length - (i + 1))
            case measure => omega
            case rel => exact ⟨i + 1, m2, rfl, by go_num, Hlt.out, Nat.le_refl _, hm2, HM3, HX4⟩
      · have hltz : ¬ (i : Int) < (l.length : Int) := by omega
        have hie : i = l.length := by omega
        have hM := HM.out
        rw [List.drop_eq_nil_of_le (by omega)] at hM
        have hme : m = mostB l := hM
        have HX5 : Hid (BuS w W3 mb go l wr l l.length) := Lib.hid (by have := HX.out; rw [hie, List.take_length] at this; exact this)
        subst hme
        clear hM HM HX hie hlt
        obtain ⟨b1, b2, b3, b4, n12, n13, n14, n23, n24, n34⟩ := HBk.out
        obtain ⟨x1, x3, x5⟩ := HMa3.out
        obtain ⟨hcs, hfz, hbW, hbw3, hrc3, hsz, hnw, hspm⟩ := H3.out
        have hwn := HB2.out.size
        have hown := HOw.out
        have BOk : (⟨sp, mb, gh, go, gv, fun k => W3.heap.size ≤ k ∧ k < wr.heap.size⟩ : Bk).Ok := ⟨by show sp ≠ mb; omega, by show sp ≠ gh; omega, by show sp ≠ go; omega, by show sp ≠ gv; omega, n12, n13, n14, n23, n24, n34, fun k hk => by
          have hk1 : W3.heap.size ≤ k := hk.1
          refine ⟨?_, ?_, ?_, ?_⟩
          · show k ≠ sp; omega
          · show k ≠ gh; omega
          · show k ≠ go; omega
          · show k ≠ gv; omega⟩
        have cx : ∀ (j : Nat) (u : Value), W3.cell? ⟨sp, j, none⟩ = some u → wr.cell? ⟨sp, j, none⟩ = some u := fun j u e => HX5.out.chg.cell (p := ⟨sp, j, none⟩) e (fun e => by have e2 : sp = mb ∨ sp = go := e; omega)
        have bx : ∀ k, k < W3.heap.size → k ≠ mb → k ≠ go → wr.heap[k]? = W3.heap[k]? := fun k h1 h2 h3 => HX5.out.chg.block k h1 (fun e => e.elim h2 h3)
        have HSv : Hid (Sv ⟨sp, mb, gh, go, gv, fun k => W3.heap.size ≤ k ∧ k < wr.heap.size⟩ l zerosV (Z.start l fuel) (.slice Aa l.length ca) (.slice none 0 0) Sl wr) := Lib.hid ⟨cx 0 _ (hcs 0), cx 1 _ (hcs 1), cx 2 _ (hcs 2), cx 3 _ (hcs 3), cx 4 _ (hcs 4), cx 5 _ (hcs 5), cx 6 _ (hcs 6), cx 7 _ (hcs 7), cx 8 _ (hcs 8),
          fun j => (frozen_of (bx sp hsz (by omega) (by omega))).trans (hfz j), HX5.out.grp.grp,
          (x3.of_block (bx gh (by omega) (fun e => n12 e.symm) n23)).congr (fun j hj => by rw [hdL_get, heldZ]; rfl),
          HX5.out.opn.congr (fun j hj => by rw [opL_get, openZ, if_pos hj]),
          (x5.of_block (bx gv (by omega) (fun e => n14 e.symm) (fun e => n34 e.symm))).congr (fun j hj => by unfold zerosV; rw [List.getD_eq_getElem?_getD, List.getElem?_replicate, if_pos hj]; rfl),
          x1.chg HX5.out.chg (fun k hk _ e => by have := hSl k hk; have e2 : k = mb ∨ k = go := e; omega) (fun k hk e => by have := hown k hk; have e2 : k = mb ∨ k = go := e; omega),
          fun k hk => by
            have := hSl k hk
            have := HX5.out.bel.size
            refine ⟨by omega, ?_, ?_, ?_, ?_, by simp [Value.ownBlock]⟩
            · show k ≠ sp; omega
            · show k ≠ gh; omega
            · show k ≠ go; omega
            · show k ≠ gv; omega,
          Mine.nil .., fun k hk => ⟨fun e => by
            have := hown k hk
            have e2 : k = sp ∨ k = mb ∨ k = gh ∨ k = go ∨ k = gv ∨ (W3.heap.size ≤ k ∧ k < wr.heap.size) := e
            omega, by simp [Value.ownBlock]⟩, fun k hk => by simp [Value.ownBlock] at hk, fun k hk => hk.2⟩
        have HSr := Lib.hid (search_calls _ BOk l Hr.out h5 (mostB l) most_le 61 zerosV (Z.start l fuel) _ _ Sl wr HSv.out zeros_ok (by have := freeN_le (mostB l) zerosV; omega) ⟨.nil l, Nat.zero_le _⟩ rfl hf0 (show fuel ≤ 1000000 by omega))
        have P := search_spec Hr.out (most_le (l := l)) 61 zerosV (Z.start l fuel) zeros_ok (by have := freeN_le (mostB l) zerosV; omega) ⟨.nil l, Nat.zero_le _⟩ rfl hf0
        have hR := HR.out
        unfold solveB at hR
        rw [if_neg (fun e => e h0), if_neg (by omega)] at hR
        dsimp only at hR
        obtain ⟨r, hre⟩ : ∃ r, searchB l 61 zerosV (Z.start l fuel) = r := ⟨_, rfl⟩
        rw [hre] at hR P HSr
        have HR := Lib.hid hR
        have HP := Lib.hid P
        have HT : Hid (∀ k, (k = sp ∨ k = gh ∨ k = go ∨ k = gv ∨ (Value.slice Aa l.length ca).ownBlock = some k ∨ (Value.slice none 0 0).ownBlock = some k) → w1.drew.heap.size ≤ k) := Lib.hid (fun k e => by
          have hwW := HW.out.size
          rcases e with e | e | e | e | e | e
          · omega
          · omega
          · omega
          · omega
          · exact (hown k e).1
          · simp [Value.ownBlock] at e)
        have HRcw : Hid (ResC wr w.heap.size (.bool false) (.slice none 0 0) (.slice none 0 0)) := Lib.hid (hrc3.same (bx _ (lt_of_cell hrc3.c0) (by omega) (by omega)))
        have HNw : Hid (w.heap.size < w1.drew.heap.size) := Lib.hid hnw
        have HSp : Hid (w.heap.size < sp) := Lib.hid (by have := HW.out.size; omega)
        have HBel : Hid (Below w.heap.size w wr) := Lib.hid HX5.out.bel
        clear b1 b2 b3 b4 n12 n13 n14 n23 n24 n34 x1 x3 x5 hcs hfz hbW hbw3 hrc3 hsz hnw hspm hwn hown BOk cx bx HSv HX5 HBk HMa3 H3 HOw HSt Hb hR P hre HL2 HRc2 hi hgg hm60 HW
        go_wp2_with fail
        refine HSr.out.mono ?_
        rintro e w5 ⟨rfl, va', vp', SA', hS5, hT5⟩
        have HRc5 := Lib.hid (HRcw.out.same (hT5.chg.block _ (lt_of_cell HRcw.out.c0) (fun e => by have := HT.out _ e; have := HNw.out; omega)))
        have HB5 : Hid (Below w.heap.size w w5) := Lib.hid (HBel.out.trans (hT5.chg.below HBel.out.size (fun k e => by have := HT.out _ e; have := HNw.out; omega)))
        have HS5 := Lib.hid hS5
        have k8 := hS5.k8
        clear hS5 hT5 HSr HRcw HT
        obtain ⟨c0, c1, c2, ff⟩ := HRc5.out
        have f0 := ff 0
        by_cases htr : r.s.tr = 0
        · have g8 : (r.s.tr != 0) = false := by rw [htr]; rfl
          have hR := HR.out
          rw [if_neg (fun e => e htr)] at hR
          have HR := Lib.hid hR
          clear hR
          cases hfd : r.fd with
          | true =>
            have hR := HR.out
            rw [hfd, if_pos rfl] at hR
            obtain ⟨_, hvok, _⟩ := HP.out.yes hfd
            obtain ⟨n, hn⟩ : ∃ n, mostB l = n := ⟨_, rfl⟩
            have hn60 : n ≤ 60 := by rw [← hn]; exact mostL_60 l 0 (by decide) Hr.out
            rw [hn] at hR
            obtain ⟨v, hv⟩ : ∃ v, r.v = v := ⟨_, rfl⟩
            rw [hv] at hR hvok
            subst hR
            have s5 := HS5.out
            rw [hv] at s5
            have h6 : Below w5.heap.size w5 (w5.alloc (.cells #[.bool true, .slice none 0 0, .slice none 0 0] 31)) := (Below.refl _ _).alloc (Nat.le_refl _) _
            have hspl := s5.sp_lt
            have hgvl := s5.vals.lt
            have hrsl := lt_of_cell HRc5.out.c0
            have hw5 := HB5.out.size
            have HV0 : Hid (VaS w (w5.alloc (.cells #[.bool true, .slice none 0 0, .slice none 0 0] 31)).heap.size w.heap.size w5.heap.size sp gv v (w5.alloc (.cells #[.bool true, .slice none 0 0, .slice none 0 0] 31)) (.slice none 0 0) 0) := Lib.hid
              ⟨Mine.nil .., ⟨cells_at w5 #[.bool true, .slice none 0 0, .slice none 0 0] 31 _ _ rfl, cells_at w5 #[.bool true, .slice none 0 0, .slice none 0 0] 31 _ _ rfl, cells_at w5 #[.bool true, .slice none 0 0, .slice none 0 0] 31 _ _ rfl, fun j => frozen_at w5 _ _ _ _ rfl⟩,
                HRc5.out.same (h6.block _ hrsl), (h6.cell (p := ⟨sp, 6, none⟩) hspl).trans s5.k6, s5.vals.of_block (h6.block _ hgvl), HB5.out.trans (h6.mono hw5), Nat.le_refl _⟩
            have hbs : w5.heap.size < (w5.alloc (.cells #[.bool true, .slice none 0 0, .slice none 0 0] 31)).heap.size := by simp
            clear HR HP HS5 htr hvok s5 h6 c0 c1 c2 ff f0 hfd hv
            go_upto_region 26 with fail
            clear hn
            generalize hw6 : w5.alloc (.cells #[.bool true, .slice none 0 0, .slice none 0 0] 31) = w6 at HV0 hbs ⊢
            clear hw6
            have Hne : Hid (sp < w5.heap.size ∧ gv < w5.heap.size ∧ w.heap.size < w5.heap.size ∧ w5.heap.size < w6.heap.size) := Lib.hid ⟨hspl, hgvl, hrsl, hbs⟩
            generalize w5.heap.size = n1 at *
            clear hspl hgvl hrsl hw5 hbs
            obtain ⟨N, hN⟩ : ∃ N, (if n = 0 then 0 else n + 1) = N := ⟨_, rfl⟩
            have HN := Lib.hid hN
            have hN60 : N ≤ 61 := by rw [← hN]; split <;> omega
            clear hN
            go_wp2_with fail
            go_loopg [18] N (fun gg v18 wr => ∃ (a : Nat) (A : Option Addr) (c : Nat), v18 = .int .i64 a ∧ a ≤ N ∧ N - a ≤ gg ∧ Hid (VaS w w6.heap.size w.heap.size n1 sp gv v wr (.slice A a c) a))
            case atStart => exact ⟨0, none, 0, rfl, by omega, by omega, HV0⟩
            case round =>
              clear HV0
              obtain ⟨a, A, c, rfl, haN, hga, HX⟩ := hrel
              by_cases hlt : a < N
              · have hNe : N = n + 1 := by
                  have := HN.out
                  by_cases e : n = 0
                  · rw [if_pos e] at this; omega
                  · rw [if_neg e] at this; exact this.symm
                have hn0 : n ≠ 0 := fun e => by have := HN.out; rw [if_pos e] at this; omega
                have g1 : (a : Int) ≤ (n : Int) := by omega
                have g2 : (0 : Int) < (n : Int) := by omega
                have a61 : (a : Int) < 61 := by omega
                have a0 : (0 : Int) ≤ (a : Int) := by omega
                have Hlt := Lib.hid hlt
                have hq := Hne.out
                obtain ⟨A', c', w7, hrun, hc7, hf7, hnew⟩ := HX.out.drew.push (show n1 < w6.heap.size ∧ w.heap.size < w6.heap.size ∧ sp < w6.heap.size ∧ gv < w6.heap.size by omega) (show w.heap.size ≠ n1 ∧ sp ≠ n1 ∧ gv ≠ n1 by omega) (by omega) (by omega)
                have HX2 := Lib.hid hnew
                have c1 := HX.out.rc.c1
                have k6 := HX.out.k6
                have qv := HX.out.row.cell (show a < 61 by omega)
                have c1a : (wr.alloc (.cells #[.bool (decide (0 < v.getD a 0))] 4)).cell? ⟨n1, 1, none⟩ = some (.slice A a c) := (cell_old _ _ _ _ (lt_of_cell c1)).trans c1
                have hrun' : (Builtin.append_ #[28, 28] 28 #[.slice A a c, .slice (some ⟨wr.heap.size, 0, none⟩) 1 1]).run Try.prog (wr.drew.alloc (.cells #[.bool (decide (0 < v.getD a 0))] 4)) = .ok (.slice A' (a + 1) c') w7 := hrun
                have HRun := Lib.hid hrun'
                generalize v.getD a 0 = y at HRun qv c1a
                clear hrun hrun' hnew HX hq hNe hlt
                go_upto_region 29 with fail
                go_region_law
                  (first
                    | (rw [if_pos (by rfl)]
                       refine wp_append_run _ _ _ rfl _ _ rfl rfl _ _ HRun.out ?_)
                    | fail)
                all_goals
                  go_wp2
                  go_roundg (N - (a + 1))
                  case measure => have := Hlt.out; omega
                  case rel => exact ⟨a + 1, A', c', by go_num, Hlt.out, Nat.le_refl _, HX2⟩
              · have haN2 : a = N := by omega
                have hpk : (decide ((a : Int) ≤ (n : Int)) && decide ((0 : Int) < (n : Int))) = false := by
                  have := HN.out
                  by_cases e : n = 0
                  · rw [e]; simp
                  · rw [if_neg e] at this
                    have : decide ((a : Int) ≤ (n : Int)) = false := decide_eq_false (by omega)
                    rw [this]; rfl
                have hvals : valsB n v = vL v N := by
                  have := HN.out
                  unfold valsB
                  by_cases e : n = 0
                  · rw [if_pos e] at this ⊢
                    rw [← this]; rfl
                  · rw [if_neg e] at this ⊢
                    rw [← this]; rfl
                subst haN2
                have hq := Hne.out
                have hrc := HX.out.rc
                obtain ⟨c0, c1, c2, _⟩ := hrc
                have hrs := HX.out.res
                obtain ⟨e0, e1, e2, ff⟩ := hrs
                have f0 := ff 0
                obtain ⟨d1, d2, p1, p2, hres⟩ := HX.out.res.store (.bool true) (.slice A a c) (.slice none 0 0)
                have f1 := p1 1
                have f2 := p2 2
                have HRs := Lib.hid hres
                have hcr := chg3 wr w.heap.size (.bool true) (.slice A a c) (.slice none 0 0)
                have HB7 := Lib.hid (HX.out.bel.trans (hcr.below HX.out.bel.size (fun k e => by have e2 : k = w.heap.size := e; omega)))
                have HCt := Lib.hid (And.intro HX.out.out.read.2.1 (HX.out.out.chg hcr (fun _ h => h.elim) (fun k e e2 => by have := (HX.out.out.base_le e).1; have e3 : k = w.heap.size := e2; omega)).read.2.2)
                have Hvals := Lib.hid hvals
                clear hres p1 p2 ff hcr HX hq hlt hvals hga
                have hpk2 : ¬ ((a : Int) ≤ (n : Int) ∧ (0 : Int) < (n : Int)) := by simpa using hpk
                have hpk3 : ((a : Int) ≤ (n : Int) → ¬ (0 : Int) < (n : Int)) := fun x y => hpk2 ⟨x, y⟩
                by_cases hcn : (a : Int) ≤ (n : Int)
                rotate_left
                all_goals try have hcn2 := hpk3 hcn
                all_goals clear hpk hpk2 hpk3
                all_goals
                  go_wp2
                  refine bodyPost_ret (solve_ret HRs.out _ rfl) rfl ?_
                  exact ⟨A, c, none, 0, by rw [Hvals.out, vL_len]; rfl, by rw [Hvals.out, vL_len]; exact HCt.out.1, by rw [Hvals.out]; exact HCt.out.2.mono (fun _ _ => trivial), Nat.le_refl _, C.nil .., HB7.out⟩
          | false =>
            have hR := HR.out
            rw [hfd, if_neg (by decide)] at hR
            subst hR
            obtain ⟨Ap, capp, rfl, hcap⟩ := HS5.out.prf.form
            have k2 := HS5.out.k2
            have HS5z := Lib.hid HS5.out.sp_lt
            have HTm := Lib.hid (trim_calls Sl _ Al Ap cl capp l r.s.proof w5 (HL.out.below HB5.out) hcl HS5.out.prf.read.2.2 hcap (by omega) (fun c hc => Nat.le_trans (right_len (Hr.out c hc)) (by decide)) (repl_atoms HP.out.inv.repl Hr.out))
            clear HR HP HS5 c0 c1 c2 ff f0 htr
            go_wp2_with fail
            refine HTm.out.mono ?_
            rintro e w6 hTE
            obtain ⟨At, ct, rfl, hct, hCt, hb6⟩ := hTE.any
            have hrc6 := HRc5.out.same (hb6.block _ (lt_of_cell HRc5.out.c0))
            have hrc6c := hrc6
            obtain ⟨c0, c1, c2, ff⟩ := hrc6c
            have f0 := ff 0
            obtain ⟨d1, d2, g1, g2, hres⟩ := hrc6.store (.bool false) (.slice none 0 0) (.slice At (trimB l r.s.proof).1.length ct)
            have f1 := g1 1
            have f2 := g2 2
            have HRs := Lib.hid hres
            have hcr := chg3 w6 w.heap.size (.bool false) (.slice none 0 0) (.slice At (trimB l r.s.proof).1.length ct)
            have HB6 := HB5.out.trans (hb6.mono HB5.out.size)
            have HB7 := Lib.hid (HB6.trans (hcr.below HB6.size (fun k e => by have e2 : k = w.heap.size := e; omega)))
            have HCt := Lib.hid (And.intro hct (hCt.chg hcr (fun k hk _ e => by have e2 : k = w.heap.size := e; have := HB5.out.size; have := HSp.out; have := HS5z.out; omega)))
            clear hres g1 g2 ff hcr HTm hTE hct hCt hb6 HB6 hrc6
            go_wp2
            refine bodyPost_ret (solve_ret HRs.out _ rfl) rfl ?_
            exact ⟨none, 0, At, ct, rfl, Nat.le_refl _, C.nil .., HCt.out.1, HCt.out.2.mono (fun _ _ => trivial), HB7.out⟩
        · have g8 : (r.s.tr != 0) = true := bne_iff_ne.2 htr
          have hR := HR.out
          rw [if_pos htr] at hR
          subst hR
          obtain ⟨d1, d2, g1, g2, hres⟩ := HRc5.out.store (.bool false) (.slice none 0 0) (.slice none 0 0)
          have f1 := g1 1
          have f2 := g2 2
          have HRs := Lib.hid hres
          have hcr : Chg (fun k => k = w.heap.size) w5 (((w5.setCell ⟨w.heap.size, 0, none⟩ (.bool false)).setCell ⟨w.heap.size, 1, none⟩ (.slice none 0 0)).setCell ⟨w.heap.size, 2, none⟩ (.slice none 0 0)) := chg3 ..
          have k8b := hcr.cell k8 (fun e => by have := HSp.out; have e2 : sp = w.heap.size := e; omega)
          have HB6 := Lib.hid (HB5.out.trans (hcr.below HB5.out.size (fun k e => by have e2 : k = w.heap.size := e; omega)))
          clear hres g1 g2 ff htr HR hcr
          go_upto_region 21 with fail
          go_region_held3 (fun W' => W'.cell? ⟨sp, 8, none⟩ = some (.int .i64 r.s.tr)) (first | exact k8b | go_keep)
            (first | fail)
          all_goals
            go_wp2
            refine bodyPost_ret (solve_ret HRs.out.drew _ rfl) rfl ?_
            exact ⟨none, 0, none, 0, rfl, Nat.le_refl _, C.nil .., Nat.le_refl _, C.nil .., HB6.out.trans ((Chg.below1 _).mono HB6.out.size)⟩
end Go.Proofs.Ytggfjfmgclcnlaa.Zb
namespace Go.Proofs.Ytggfjfmgclcnlaa.Zb
open Go Go.RowKit Go.Shelf Go.Proofs.Ytggfjfmgclcnlaa.K Go.Proofs.Ytggfjfmgclcnlaa.G Go.Proofs.Ytggfjfmgclcnlaa.Z
set_option linter.unusedSimpArgs false
set_option linter.unusedVariables false
set_option maxRecDepth 100000 in
set_option maxHeartbeats 4000000 in
theorem solve_calls (Sl : Nat → Prop) (Al : Option Addr) (cl : Nat) (l : List Cls) (fuel : Int) (w : World) (hl : C kL Sl w Al l) (hcl : l.length ≤ cl) (hll : l.length ≤ 1000000) (hlc : ∀ c ∈ l, c.length ≤ 1000000000) :
    Calls Try.prog 11 #[.slice Al l.length cl, .int .i64 fuel] w (SvEnd w (solveB l fuel)) := by
  have hb0 : Below w.heap.size w (w.alloc (.cells #[.bool false, .slice none 0 0, .slice none 0 0] 31)) := (Below.refl _ _).alloc (Nat.le_refl _) _
  have HC := Lib.hid (check_calls (hl.below hb0) hcl (by omega) hlc)
  obtain ⟨R, hR⟩ : ∃ R, solveB l fuel = R := ⟨_, rfl⟩
  rw [hR]
  unfold solveB at hR
  have HB0 := Lib.hid hb0
  have HL := Lib.hid hl
  have hlm : l.length ≤ 9223372036854775807 := by omega
  obtain ⟨E, hE⟩ : ∃ E, checkL l = E := ⟨_, rfl⟩
  rw [hE] at HC hR
  have HRc : Hid (∀ W, Below (w.alloc (.cells #[.bool false, .slice none 0 0, .slice none 0 0] 31)).heap.size (w.alloc (.cells #[.bool false, .slice none 0 0, .slice none 0 0] 31)) W → ResC W w.heap.size (.bool false) (.slice none 0 0) (.slice none 0 0)) := Lib.hid (fun W hb =>
    ResC.same ⟨cells_at w #[.bool false, .slice none 0 0, .slice none 0 0] 31 _ _ rfl, cells_at w #[.bool false, .slice none 0 0, .slice none 0 0] 31 _ _ rfl, cells_at w #[.bool false, .slice none 0 0, .slice none 0 0] 31 _ _ rfl, fun j => frozen_at w _ _ _ _ rfl⟩ (hb.block _ (by simp)))
  by_cases h0 : E = 0
  · subst h0
    by_cases hf : fuel < 0 ∨ 100000 < fuel
    · rw [if_neg (fun e => e rfl), if_pos hf] at hR
      subst hR
      have HF := Lib.hid hf
      clear hl hb0 hE hf
      by_cases hneg : fuel < 0
      all_goals
        have fu0 : decide (fuel < 0) = decide (fuel < 0) := rfl
        try have hbig : 100000 < fuel := HF.out.resolve_left hneg
        go_enter Try.func11, Try.ntmps11
        go_wp2_with fail
        refine HC.out.mono ?_
        rintro e w1 ⟨rfl, hb1⟩
        have HB1 := Lib.hid (HB0.out.trans (hb1.mono HB0.out.size))
        obtain ⟨c0, c1, c2, ff⟩ := HRc.out _ hb1
        obtain ⟨d1, d2, g1, g2, hres⟩ := (HRc.out _ hb1).store (.bool false) (.slice none 0 0) (.slice none 0 0)
        have f0 := ff 0
        have f1 := g1 1
        have f2 := g2 2
        have HRs := Lib.hid hres
        clear hb1 HC ff g1 g2 hres fu0
        go_wp2
        refine bodyPost_ret (solve_ret HRs.out _ rfl) rfl ?_
        exact ⟨none, 0, none, 0, rfl, Nat.le_refl _, C.nil .., Nat.le_refl _, C.nil .., ((HB1.out.setCell (p := ⟨w.heap.size, 0, none⟩) (Nat.le_refl _) _).setCell (p := ⟨w.heap.size, 1, none⟩) (Nat.le_refl _) _).setCell (p := ⟨w.heap.size, 2, none⟩) (Nat.le_refl _) _⟩
    · have := solve_main (fun k => Sl k ∧ k < w.heap.size) Al cl l fuel w hl.bound hcl hE (by omega) (by omega) (fun k hk => hk.2)
      have hR2 : solveB l fuel = R := by unfold solveB; rw [hE]; exact hR
      rw [hR2] at this
      exact this
  · rw [if_pos h0] at hR
    subst hR
    have gE : (E != 0) = true := bne_iff_ne.2 h0
    clear h0 hl hb0 hE
    go_enter Try.func11, Try.ntmps11
    go_wp2_with fail
    refine HC.out.mono ?_
    rintro e w1 ⟨rfl, hb1⟩
    have HB1 := Lib.hid (HB0.out.trans (hb1.mono HB0.out.size))
    obtain ⟨c0, c1, c2, ff⟩ := HRc.out _ hb1
    obtain ⟨d1, d2, g1, g2, hres⟩ := (HRc.out _ hb1).store (.bool false) (.slice none 0 0) (.slice none 0 0)
    have f0 := ff 0
    have f1 := g1 1
    have f2 := g2 2
    have HRs := Lib.hid hres
    clear hb1 HC ff g1 g2 hres
    go_wp2
    refine bodyPost_ret (solve_ret HRs.out _ rfl) rfl ?_
    exact ⟨none, 0, none, 0, rfl, Nat.le_refl _, C.nil .., Nat.le_refl _, C.nil .., ((HB1.out.setCell (p := ⟨w.heap.size, 0, none⟩) (Nat.le_refl _) _).setCell (p := ⟨w.heap.size, 1, none⟩) (Nat.le_refl _) _).setCell (p := ⟨w.heap.size, 2, none⟩) (Nat.le_refl _) _⟩
end Go.Proofs.Ytggfjfmgclcnlaa.Zb
