/- Walks of the solver: assign, and what undoes it. -/
import Derived.Test.YtggfjfmgclcnlaaVab
import Derived.Laws.EntriesVeiled
namespace Go.Proofs.Ytggfjfmgclcnlaa.Zb
open Go Go.RowKit Go.Shelf Go.Proofs.Ytggfjfmgclcnlaa.K Go.Proofs.Ytggfjfmgclcnlaa.G Go.Proofs.Ytggfjfmgclcnlaa.Z
set_option linter.unusedSimpArgs false
set_option linter.unusedVariables false

theorem Sv.chs {B : Bk} {l : List Cls} {v : List Int} {T : SS} {va vp : Value} {SA : Nat → Prop} {W0 W : World} {bp bx : Nat} {x : Int} (hB : B.Ok) (h : Sv B l v T va vp SA W0) (hc : Chg (fun k => k = B.gv) W0 W)
    (pp : W.cell? ⟨bp, 0, none⟩ = some (.pointer (some ⟨B.sp, 0, none⟩))) (px : W.cell? ⟨bx, 0, none⟩ = some (.int .i64 x)) : ChS B.S W W B.sp B.mb B.gh B.go bp bx x l (hdL v l) (opL v l) :=
  ⟨pp, px, hc.cell h.k3 hB.sv, hc.cell h.k4 hB.sv, hc.cell h.k5 hB.sv, h.grp.chg hc hB.mv (fun k hk _ => (hB.S k hk).2.2.2), h.held.of_block (hc.block _ h.held.lt hB.hv), h.opn.of_block (hc.block _ h.opn.lt hB.ov), hdL_len v l, opL_len v l, Chg.refl _ _⟩
theorem Bk.Ok.cha {B : Bk} (hB : B.Ok) {bp bx : Nat} (h1 : bp ≠ B.gh ∧ bp ≠ B.go) (h2 : bx ≠ B.gh ∧ bx ≠ B.go) : ChA B.S B.sp B.mb B.gh B.go bp bx :=
  ⟨hB.ho, ⟨hB.sh, hB.so⟩, ⟨hB.mh, hB.mo⟩, h1, h2, fun k hk => ⟨(hB.S k hk).2.1, (hB.S k hk).2.2.1⟩⟩
/-- the counts follow the values -/
theorem Sv.after {B : Bk} {l : List Cls} {v v' : List Int} {T : SS} {va vp : Value} {SA : Nat → Prop} {W0 W W' : World} {bp bx : Nat} {x : Int} (hB : B.Ok) (h : Sv B l v T va vp SA W0) (hc : Chg (fun k => k = B.gv) W0 W) (hr : W.rowIs B.gv 3 61 (fun j => .int .i64 (v'.getD j 0)))
    (hs : ChS B.S W W' B.sp B.mb B.gh B.go bp bx x l (hdL v' l) (opL v' l)) : Sv B l v' T va vp SA W' ∧ Chg (fun k => k = B.gh ∨ k = B.go ∨ k = B.gv) W0 W' := by
  have hx : Chg (fun k => k = B.gh ∨ k = B.go ∨ k = B.gv) W0 W' := (hc.mono (fun k e => .inr (.inr e))).trans (hs.chg.mono (fun k e => e.elim .inl (fun e => .inr (.inl e))))
  exact ⟨h.turned hB hx hs.held hs.opn (hr.of_block (hs.chg.block _ hr.lt (by rintro (e | e); exact hB.hv e.symm; exact hB.ov e.symm))), hx⟩
theorem bnd_h {v : List Int} {l : List Cls} (hr : ∀ c ∈ l, rightC c = true) : Bnd 1000 (hdL v l) := fun y hy => by
  obtain ⟨c, hc, rfl⟩ := List.mem_map.1 hy
  have h1 := held_le v c
  have h2 := right_len (hr c hc)
  omega
theorem bnd_o {v : List Int} {l : List Cls} (hr : ∀ c ∈ l, rightC c = true) : Bnd 1000 (opL v l) := fun y hy => by
  obtain ⟨c, hc, rfl⟩ := List.mem_map.1 hy
  have h1 := open_le v c
  have h2 := right_len (hr c hc)
  omega
theorem occ_few {l : List Cls} (hr : ∀ c ∈ l, rightC c = true) (hl : l.length ≤ 500) (y : Int) : (occF y l 0).length ≤ 100000 := by
  have := occF_len_le y l 0 (fun c hc => right_len (hr c hc))
  omega
/-- what undoes an assignment: the closure, and its cells -/
structure Und (B : Bk) (x : Int) (bp bx bc : Nat) (W : World) : Prop where
  cp : W.cell? ⟨bp, 0, none⟩ = some (.pointer (some ⟨B.sp, 0, none⟩))
  cx : W.cell? ⟨bx, 0, none⟩ = some (.int .i64 x)
  cc : W.cell? ⟨bc, 0, none⟩ = some (.func (.func 64) #[] #[.pointer (some ⟨bp, 0, none⟩), .pointer (some ⟨bx, 0, none⟩)])
theorem Und.chg {B : Bk} {x : Int} {bp bx bc : Nat} {W W' : World} {Tt : Nat → Prop} (h : Und B x bp bx bc W) (hc : Chg Tt W W') (h1 : ¬ Tt bp) (h2 : ¬ Tt bx) (h3 : ¬ Tt bc) : Und B x bp bx bc W' := ⟨hc.cell h.cp h1, hc.cell h.cx h2, hc.cell h.cc h3⟩
abbrev chgV (bp bx : Nat) : Value := .func (.func 64) #[] #[.pointer (some ⟨bp, 0, none⟩), .pointer (some ⟨bx, 0, none⟩)]
/-- the two cells that assign makes first -/
structure NewU (B : Bk) (x : Int) (w W2 : World) : Prop where
  c0 : W2.cell? ⟨w.heap.size, 0, none⟩ = some (.pointer (some ⟨B.sp, 0, none⟩))
  c1 : W2.cell? ⟨w.heap.size + 1, 0, none⟩ = some (.int .i64 x)
  size : W2.heap.size = w.heap.size + 1 + 1
  below : Below w.heap.size w W2
theorem new_u (B : Bk) (x : Int) (w : World) : NewU B x w ((w.alloc (.cells #[.pointer (some ⟨B.sp, 0, none⟩)] 70)).alloc (.cells #[.int .i64 x] 75)) := by
  have s1 : (w.alloc (.cells #[.pointer (some ⟨B.sp, 0, none⟩)] 70)).heap.size = w.heap.size + 1 := by simp
  refine ⟨?_, cell_at _ _ _ _ s1.symm, by simp, ((Below.refl _ _).alloc (Nat.le_refl _) _).alloc (by rw [s1]; omega) _⟩
  rw [cell_old _ _ _ _ (by rw [s1]; omega)]
  exact cell_at _ _ _ _ rfl
theorem NewU.last {B : Bk} {x : Int} {w W2 : World} (h : NewU B x w W2) : Below w.heap.size w (W2.alloc (.cells #[chgV w.heap.size (w.heap.size + 1)] 103)) ∧
    Und B x w.heap.size (w.heap.size + 1) W2.heap.size (W2.alloc (.cells #[chgV w.heap.size (w.heap.size + 1)] 103)) := by
  have hsz := h.size
  exact ⟨h.below.alloc (by omega) _, (cell_old W2 _ _ 0 (by omega)).trans h.c0, (cell_old W2 _ _ 0 (by omega)).trans h.c1, cell_at W2 _ 103 _ rfl⟩
def undV (bp bx bc : Nat) : Value := .func (.func 65) #[] #[.pointer (some ⟨bp, 0, none⟩), .pointer (some ⟨bx, 0, none⟩), .pointer (some ⟨bc, 0, none⟩)]
/-- the values turned, the counts not yet -/
structure AsB (B : Bk) (x : Int) (bp bx bc : Nat) (W0 W : World) (u : List Int) : Prop where
  und : Und B x bp bx bc W
  k6 : W.cell? ⟨B.sp, 6, none⟩ = some (.slice (some ⟨B.gv, 0, none⟩) 61 61)
  row : W.rowIs B.gv 3 61 (fun j => .int .i64 (u.getD j 0))
  len : u.length = 61
  chg : Chg (fun k => k = B.gv) W0 W
theorem AsB.step {B : Bk} {x : Int} {bp bx bc : Nat} {W0 W : World} {u : List Int} (hB : B.Ok) (h : AsB B x bp bx bc W0 W u) (n1 : bp ≠ B.gv) (n2 : bx ≠ B.gv) (n3 : bc ≠ B.gv) {a : Nat} (ha : a < 61) (y : Int) : AsB B x bp bx bc W0 (W.setCell ⟨B.gv, a, none⟩ (.int .i64 y)).drew (u.set a y) := by
  have hg : Chg (fun k => k = B.gv) W (W.setCell ⟨B.gv, a, none⟩ (.int .i64 y)).drew := (Chg.setCell (T := fun k => k = B.gv) (p := ⟨B.gv, a, none⟩) rfl _).trans (Chg.drew _ _)
  exact ⟨h.und.chg hg n1 n2 n3, hg.cell h.k6 hB.sv, rowI_set y h.row h.len ha, by rw [List.length_set]; exact h.len, h.chg.trans hg⟩
set_option maxRecDepth 100000 in
set_option maxHeartbeats 4000000 in
theorem assign_calls (B : Bk) (hB : B.Ok) (l : List Cls) (v : List Int) (T : SS) (va vp : Value) (SA : Nat → Prop) (x : Int) (w : World) (h : Sv B l v T va vp SA w) (hv : Vok v) (hx : Z.Lit x) (hx0 : lv v x = 0) (hl : l.length ≤ 500) (hr : ∀ c ∈ l, rightC c = true) :
    Calls Try.prog 58 #[.pointer (some ⟨B.sp, 0, none⟩), .int .i64 x] w fun e w' => ∃ bp bx bc, e = .returned (undV bp bx bc) ∧ w.heap.size ≤ bp ∧ w.heap.size ≤ bx ∧ w.heap.size ≤ bc ∧ Und B x bp bx bc w' ∧ Sv B l (setV v x) T va vp SA w' ∧ Chg (fun k => k = B.gh ∨ k = B.go ∨ k = B.gv) w w' := by
  obtain ⟨x0, x1, x2⟩ := hx
  have ea : atm x = ((x.natAbs : Nat) : Int) := by unfold atm; split <;> omega
  have HAt := Lib.hid (fun (W : World) => atom_calls x W (by omega) (by omega))
  rw [ea] at HAt
  have HHo := Lib.hid (fun (W : World) => holds_calls x W)
  have hmf : ∀ (fn : Fn) (first cap : Array Value) (w : World), (Instr.makeFunc fn first cap).run Try.prog w = .ok (.func fn first cap) w := fun _ _ _ _ => rfl
  obtain ⟨n0, hn0⟩ : ∃ n0, w.heap.size = n0 := ⟨_, rfl⟩
  rw [hn0]
  have HN := Lib.hid hn0
  clear hn0
  have HN0 := Lib.hid (new_u B x w)
  have hne : ∀ k, B.H k → k < w.heap.size := h.H_lt
  have HS0 := Lib.hid h
  have hgv := hne B.gv (.inr (.inr (.inr (.inr (.inl rfl)))))
  have hgh := hne B.gh (.inr (.inr (.inl rfl)))
  have hgo := hne B.go (.inr (.inr (.inr (.inl rfl))))
  have HA := Lib.hid (hB.cha (bp := w.heap.size) (bx := w.heap.size + 1) ⟨by omega, by omega⟩ ⟨by omega, by omega⟩)
  clear h hne ea
  go_enter Try.func58, Try.ntmps58
  go_upto_region 1 with fail
  generalize (w.alloc (.cells #[.pointer (some ⟨B.sp, 0, none⟩)] 70)).alloc (.cells #[.int .i64 x] 75) = W2 at HN0 ⊢
  go_upto_region 2 with fail
  obtain ⟨hb4, hu4⟩ := HN0.out.last
  have hsz := HN0.out.size
  generalize hc2 : W2.heap.size = bc at hb4 hu4 hsz ⊢
  generalize W2.alloc (.cells #[.func (.func 64) #[] #[.pointer (some ⟨w.heap.size, 0, none⟩), .pointer (some ⟨w.heap.size + 1, 0, none⟩)]] 103) = W4 at hb4 hu4 ⊢
  have HS := Lib.hid (HS0.out.below hb4)
  have HB4 : Hid (Chg (fun k => k = B.gh ∨ k = B.go ∨ k = B.gv) w W4) := Lib.hid (Chg.of_fresh hb4)
  have hlt : x.natAbs < 61 := by omega
  have hz : ((x.natAbs : Nat) : Int) < 61 := by omega
  have hz0 : (0 : Int) ≤ ((x.natAbs : Nat) : Int) := by omega
  have A0 : AsB B x w.heap.size (w.heap.size + 1) bc W4 W4 v := ⟨hu4, HS.out.k6, HS.out.vals, hv.len, Chg.refl _ _⟩
  have A1 := A0.step hB (by omega) (by omega) (by omega) hlt (-1)
  have A2 := A1.step hB (by omega) (by omega) (by omega) hlt 1
  have HNe : Hid (w.heap.size ≠ B.gh ∧ w.heap.size ≠ B.go ∧ w.heap.size + 1 ≠ B.gh ∧ w.heap.size + 1 ≠ B.go ∧ bc ≠ B.gh ∧ bc ≠ B.go) := Lib.hid (by omega)
  have HW : Hid (n0 ≤ w.heap.size ∧ n0 ≤ w.heap.size + 1 ∧ n0 ≤ bc) := Lib.hid (by have := HN.out; omega)
  have hval : setV v x = if 0 < x then (v.set x.natAbs (-1)).set x.natAbs 1 else v.set x.natAbs (-1) := by
    unfold setV
    rw [List.set_set]
    split <;> rfl
  have HC := Lib.hid (fun W (hs : ChS B.S W W B.sp B.mb B.gh B.go w.heap.size (w.heap.size + 1) x l (hdL v l) (opL v l)) => change_calls B.S W B.sp B.mb B.gh B.go w.heap.size (w.heap.size + 1) x l _ _ 1 (.inl rfl) hs HA.out hl ⟨x0, x1, x2⟩ (bnd_h hr) (bnd_o hr) (occ_few hr hl))
  have HE := Lib.hid (And.intro (hdL_set hv x0 (by omega) hx0 l) (opL_set hv x0 (by omega) hx0 l))
  generalize w.heap.size = bp at *
  generalize bp + 1 = bx at *
  have cp := hu4.cp
  have cx := hu4.cx
  have k6 := A0.k6
  have qv := A0.row.cell hlt
  have fv := A0.row.frozen x.natAbs
  have cp1 := A1.und.cp
  have cx1 := A1.und.cx
  have k61 := A1.k6
  have qv1 := A1.row.cell hlt
  have fv1 := A1.row.frozen x.natAbs
  have cp2 := A2.und.cp
  have cx2 := A2.und.cx
  have cc1 := A1.und.cc
  have cc2 := A2.und.cc
  have k62 := A2.k6
  have HA1 := Lib.hid A1
  have HA2 := Lib.hid A2
  have hge : bp ≠ B.gh ∧ bp ≠ B.go ∧ bx ≠ B.gh ∧ bx ≠ B.go ∧ bc ≠ B.gh ∧ bc ≠ B.go := HNe.out
  have HNe2 := Lib.hid hge
  clear hge HNe
  clear hu4 A0 A1 A2 hb4 HN0 HS0 hsz hgv hgh hgo HA hr hv hx0
  generalize v.getD x.natAbs 0 = y at qv
  generalize (v.set x.natAbs (-1)).getD x.natAbs 0 = y1 at qv1
  generalize x.natAbs = a at *
  have Hval := Lib.hid hval
  clear hval
  go_region_held3 (fun W' => W'.cell? ⟨bp, 0, none⟩ = some (.pointer (some ⟨B.sp, 0, none⟩)) ∧ W'.cell? ⟨bx, 0, none⟩ = some (.int .i64 x) ∧ W'.cell? ⟨B.sp, 6, none⟩ = some (.slice (some ⟨B.gv, 0, none⟩) 61 61)) (first | exact ⟨cp1, cx1, k61⟩ | go_keep)
    (first
      | (go_at_call 35
         (with_reducible refine (HAt.out _).mono ?_)
         rintro e w9 ⟨rfl, rfl⟩))
  all_goals
    clear cp cx k6 qv fv
    generalize (W4.setCell ⟨B.gv, a, none⟩ (.int .i64 (-1))).drew = W5 at *
    go_wp2_with fail
    refine (HHo.out _).mono ?_
    rintro e w7 ⟨rfl, rfl⟩
    by_cases hpos : 0 < x
    · have hd : decide (0 < x) = true := decide_eq_true hpos
      have hval := Hval.out
      rw [if_pos hpos] at hval
      have Hval2 := Lib.hid hval
      clear hval Hval HA1 cc1
      rw [hd]
      go_upto_region 4 with fail
      go_region_held3 (fun W' => W'.cell? ⟨bp, 0, none⟩ = some (.pointer (some ⟨B.sp, 0, none⟩)) ∧ W'.cell? ⟨bx, 0, none⟩ = some (.int .i64 x) ∧ W'.cell? ⟨B.sp, 6, none⟩ = some (.slice (some ⟨B.gv, 0, none⟩) 61 61)) (first | exact ⟨cp2, cx2, k62⟩ | go_keep)
        (first
          | (go_at_call 35
             (with_reducible refine (HAt.out _).mono ?_)
             rintro e w9 ⟨rfl, rfl⟩))
      all_goals
        clear cp1 cx1 k61 qv1 fv1
        generalize (W5.setCell ⟨B.gv, a, none⟩ (.int .i64 1)).drew = W6 at *
        go_wp2_with fail
        refine (HC.out _ (HS.out.chs hB HA2.out.chg cp2 cx2)).mono ?_
        rintro e w9 ⟨rfl, hs⟩
        have hu9 := HA2.out.und.chg hs.chg (fun e => e.elim HNe2.out.1 HNe2.out.2.1) (fun e => e.elim HNe2.out.2.2.1 HNe2.out.2.2.2.1) (fun e => e.elim HNe2.out.2.2.2.2.1 HNe2.out.2.2.2.2.2)
        rw [HE.out.1, HE.out.2] at hs
        have hrow := HA2.out.row
        rw [← Hval2.out] at hrow
        obtain ⟨f1, f2⟩ := HS.out.after hB HA2.out.chg hrow hs
        have F := Lib.hid (And.intro hu9 (And.intro f1 (HB4.out.trans f2)))
        clear hs hrow f1 f2 hu9
        go_wp2
        go_ret
        exact ⟨bp, bx, bc, rfl, HW.out.1, HW.out.2.1, HW.out.2.2, F.out⟩
    · have hd : decide (0 < x) = false := decide_eq_false hpos
      have hval := Hval.out
      rw [if_neg hpos] at hval
      have Hval2 := Lib.hid hval
      clear hval Hval HA2 cp2 cx2 cc2 k62
      rw [hd]
      go_wp2_with fail
      refine (HC.out _ (HS.out.chs hB HA1.out.chg cp1 cx1)).mono ?_
      rintro e w9 ⟨rfl, hs⟩
      have hu9 := HA1.out.und.chg hs.chg (fun e => e.elim HNe2.out.1 HNe2.out.2.1) (fun e => e.elim HNe2.out.2.2.1 HNe2.out.2.2.2.1) (fun e => e.elim HNe2.out.2.2.2.2.1 HNe2.out.2.2.2.2.2)
      rw [HE.out.1, HE.out.2] at hs
      have hrow := HA1.out.row
      rw [← Hval2.out] at hrow
      obtain ⟨f1, f2⟩ := HS.out.after hB HA1.out.chg hrow hs
      have F := Lib.hid (And.intro hu9 (And.intro f1 (HB4.out.trans f2)))
      clear hs hrow f1 f2 hu9
      go_wp2
      go_ret
      exact ⟨bp, bx, bc, rfl, HW.out.1, HW.out.2.1, HW.out.2.2, F.out⟩
set_option maxRecDepth 100000 in
set_option maxHeartbeats 4000000 in
theorem undo_calls (B : Bk) (hB : B.Ok) (l : List Cls) (v : List Int) (T : SS) (va vp : Value) (SA : Nat → Prop) (x : Int) (bp bx bc : Nat) (w : World) (h : Sv B l (setV v x) T va vp SA w) (hu : Und B x bp bx bc w) (hv : Vok v) (hx : Z.Lit x) (hx0 : lv v x = 0) (hl : l.length ≤ 500) (hr : ∀ c ∈ l, rightC c = true)
    (hn : ∀ k, (k = bp ∨ k = bx ∨ k = bc) → ¬ B.H k) :
    Calls Try.prog 65 #[.pointer (some ⟨bp, 0, none⟩), .pointer (some ⟨bx, 0, none⟩), .pointer (some ⟨bc, 0, none⟩)] w fun e w' => e = .returned (.tuple #[]) ∧ Sv B l v T va vp SA w' ∧ Chg (fun k => k = B.gh ∨ k = B.go ∨ k = B.gv) w w' := by
  obtain ⟨x0, x1, x2⟩ := hx
  have ea : atm x = ((x.natAbs : Nat) : Int) := by unfold atm; split <;> omega
  have HAt := Lib.hid (fun (W : World) => atom_calls x W (by omega) (by omega))
  rw [ea] at HAt
  have hlt : x.natAbs < 61 := by omega
  have hz : ((x.natAbs : Nat) : Int) < 61 := by omega
  have hz0 : (0 : Int) ≤ ((x.natAbs : Nat) : Int) := by omega
  have npv : bp ≠ B.gv := fun e => hn bp (.inl rfl) (.inr (.inr (.inr (.inr (.inl e)))))
  have nxv : bx ≠ B.gv := fun e => hn bx (.inr (.inl rfl)) (.inr (.inr (.inr (.inr (.inl e)))))
  have ncv : bc ≠ B.gv := fun e => hn bc (.inr (.inr rfl)) (.inr (.inr (.inr (.inr (.inl e)))))
  have HA := Lib.hid (hB.cha (bp := bp) (bx := bx) ⟨fun e => hn bp (.inl rfl) (.inr (.inr (.inl e))), fun e => hn bp (.inl rfl) (.inr (.inr (.inr (.inl e))))⟩ ⟨fun e => hn bx (.inr (.inl rfl)) (.inr (.inr (.inl e))), fun e => hn bx (.inr (.inl rfl)) (.inr (.inr (.inr (.inl e))))⟩)
  have HC := Lib.hid (fun W (hs : ChS B.S W W B.sp B.mb B.gh B.go bp bx x l (hdL (setV v x) l) (opL (setV v x) l)) => change_calls B.S W B.sp B.mb B.gh B.go bp bx x l _ _ (-1) (.inr rfl) hs HA.out hl ⟨x0, x1, x2⟩ (bnd_h hr) (bnd_o hr) (occ_few hr hl))
  have HE := Lib.hid (And.intro (hdL_unset hv x0 (by omega) hx0 l) (And.intro (opL_unset hv x0 (by omega) hx0 l) (setV_undo hx0)))
  have hlen : (setV v x).length = 61 := by unfold setV; rw [List.length_set]; exact hv.len
  have HS := Lib.hid h
  have cp := hu.cp
  have cx := hu.cx
  have cc := hu.cc
  have k6 := h.k6
  have qv := h.vals.cell hlt
  have fv := h.vals.frozen x.natAbs
  have hg : Chg (fun k => k = B.gv) w (w.setCell ⟨B.gv, x.natAbs, none⟩ (.int .i64 0)).drew := (Chg.setCell (T := fun k => k = B.gv) (p := ⟨B.gv, x.natAbs, none⟩) rfl _).trans (Chg.drew _ _)
  have dp := hg.cell cp npv
  have dx := hg.cell cx nxv
  have dc := hg.cell cc ncv
  have d6 := hg.cell k6 hB.sv
  have HG := Lib.hid hg
  have HRow : Hid ((w.setCell ⟨B.gv, x.natAbs, none⟩ (.int .i64 0)).drew.rowIs B.gv 3 61 (fun j => .int .i64 (((setV v x).set x.natAbs 0).getD j 0))) := Lib.hid (rowI_set (0 : Int) h.vals hlen hlt)
  generalize (setV v x).getD x.natAbs 0 = y at qv
  generalize hag : x.natAbs = a at *
  have Hag := Lib.hid hag
  clear h hu hr hv hx0 hg hag hn ea
  go_enter Try.func65, Try.ntmps65
  go_upto_region 0 with fail
  go_region_held3 (fun W' => W'.cell? ⟨bp, 0, none⟩ = some (.pointer (some ⟨B.sp, 0, none⟩)) ∧ W'.cell? ⟨bx, 0, none⟩ = some (.int .i64 x) ∧ W'.cell? ⟨B.sp, 6, none⟩ = some (.slice (some ⟨B.gv, 0, none⟩) 61 61)) (first | exact ⟨dp, dx, d6⟩ | go_keep)
    (first
      | (go_at_call 35
         (with_reducible refine (HAt.out _).mono ?_)
         rintro e w9 ⟨rfl, rfl⟩))
  all_goals
    clear cp cx cc k6 qv fv HAt
    go_wp2_with fail
    refine (HC.out _ (HS.out.chs hB HG.out dp dx)).mono ?_
    rintro e w9 ⟨rfl, hs⟩
    have hs9 : ChS B.S (w.setCell ⟨B.gv, a, none⟩ (.int .i64 0)).drew w9 B.sp B.mb B.gh B.go bp bx x l (hdL v l) (opL v l) := by
      have h1 := HE.out.1
      have h2 := HE.out.2.1
      rw [h1, Int.neg_neg, h2] at hs
      exact hs
    have hrow := HRow.out
    rw [HE.out.2.2] at hrow
    have hfin := Lib.hid (HS.out.after hB HG.out hrow hs9)
    clear hs hs9 hrow dp dx dc d6 HE HC HRow HG
    go_wp2
    go_end0
    exact ⟨rfl, hfin.out⟩
end Go.Proofs.Ytggfjfmgclcnlaa.Zb
