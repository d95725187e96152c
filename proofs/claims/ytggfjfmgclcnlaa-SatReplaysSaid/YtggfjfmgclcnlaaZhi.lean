/- Walk of sat.Trim. -/
import Derived.Test.YtggfjfmgclcnlaaZg
import Derived.Deep.RegionHeld3
namespace Go.Proofs.Ytggfjfmgclcnlaa.Zb
open Go Go.RowKit Go.Shelf Go.Proofs.Ytggfjfmgclcnlaa.K Go.Proofs.Ytggfjfmgclcnlaa.G Go.Proofs.Ytggfjfmgclcnlaa.Z
set_option linter.unusedSimpArgs false
set_option linter.unusedVariables false

/-! ### the state of Trim's loop, in plain -/
/-- ix: the new indices so far; out: the steps so far; O: what comes out -/
def TrSt (u : Nat → Nat → Int) (l : List Cls) (p : List Stp) (need : List Bool) (O : List Stp) (i : Nat) (ix : List Int) (out : List Stp) : Prop :=
  ix.length = i ∧ out.length ≤ i ∧ (i ≤ l.length → ix = idL i ∧ out = []) ∧ (l.length ≤ i → trimF u l.length (p.drop (i - l.length)) (need.drop i) ix out = O)
theorem idL_succ (n : Nat) : idL (n + 1) = idL n ++ [(n : Int)] := by simp [idL, List.range_succ]
theorem idL_len (n : Nat) : (idL n).length = n := by simp [idL]
theorem TrSt.start {u : Nat → Nat → Int} {l : List Cls} {p : List Stp} {need : List Bool} {O : List Stp} (h : trimF u l.length p (need.drop l.length) (idL l.length) [] = O) : TrSt u l p need O 0 [] [] :=
  ⟨rfl, Nat.le_refl _, fun _ => ⟨rfl, rfl⟩, fun h0 => by
    have e : l.length = 0 := by omega
    rw [e] at h
    simpa [idL, e] using h⟩
theorem TrSt.low {u : Nat → Nat → Int} {l : List Cls} {p : List Stp} {need : List Bool} {O : List Stp} {i : Nat} {ix : List Int} {out : List Stp} (h0 : trimF u l.length p (need.drop l.length) (idL l.length) [] = O) (h : TrSt u l p need O i ix out) (hi : i < l.length) : TrSt u l p need O (i + 1) (ix ++ [(i : Int)]) out := by
  obtain ⟨h1, h2, h3, _⟩ := h
  obtain ⟨rfl, rfl⟩ := h3 (by omega)
  refine ⟨by rw [List.length_append, h1]; rfl, by simp, fun _ => ⟨(idL_succ i).symm, rfl⟩, fun h4 => ?_⟩
  have e : l.length = i + 1 := by omega
  rw [← idL_succ, ← e, Nat.sub_self, List.drop_zero]
  exact h0
theorem TrSt.skip {u : Nat → Nat → Int} {l : List Cls} {p : List Stp} {need : List Bool} {O : List Stp} {i : Nat} {ix : List Int} {out : List Stp} (h : TrSt u l p need O i ix out) (hi : l.length ≤ i) (hp : i - l.length < p.length) (hn : i < need.length) (hd : need.getD i false = false) : TrSt u l p need O (i + 1) (ix ++ [u i out.length]) out := by
  obtain ⟨h1, h2, _, h4⟩ := h
  refine ⟨by rw [List.length_append, h1]; rfl, by omega, fun h5 => by omega, fun _ => ?_⟩
  have h5 := h4 hi
  rw [List.drop_eq_getElem_cons hp, List.drop_eq_getElem_cons hn, trimF] at h5
  have e : need[i]'hn = false := by rw [List.getD_eq_getElem?_getD, List.getElem?_eq_getElem hn] at hd; exact hd
  rw [e, if_neg (by decide), h1] at h5
  rw [show i + 1 - l.length = i - l.length + 1 by omega]
  exact h5
theorem TrSt.take {u : Nat → Nat → Int} {l : List Cls} {p : List Stp} {need : List Bool} {O : List Stp} {i : Nat} {ix : List Int} {out : List Stp} (h : TrSt u l p need O i ix out) (hi : l.length ≤ i) (hp : i - l.length < p.length) (hn : i < need.length) (hd : need.getD i false = true) {a b : Nat} {t : Int} (es : p[i - l.length]'hp = ((a : Int), (b : Int), t)) :
    TrSt u l p need O (i + 1) (ix ++ [((l.length + out.length : Nat) : Int)]) (out ++ [(ix.getD a 0, ix.getD b 0, t)]) := by
  obtain ⟨h1, h2, _, h4⟩ := h
  refine ⟨by rw [List.length_append, h1]; rfl, by rw [List.length_append]; simp; exact h2, fun h5 => by omega, fun _ => ?_⟩
  have h5 := h4 hi
  rw [List.drop_eq_getElem_cons hp, List.drop_eq_getElem_cons hn, trimF] at h5
  have e : need[i]'hn = true := by rw [List.getD_eq_getElem?_getD, List.getElem?_eq_getElem hn] at hd; exact hd
  rw [e, if_pos rfl, es] at h5
  rw [show i + 1 - l.length = i - l.length + 1 by omega]
  exact h5
theorem TrSt.done {u : Nat → Nat → Int} {l : List Cls} {p : List Stp} {need : List Bool} {O : List Stp} {ix : List Int} {out : List Stp} (h : TrSt u l p need O need.length ix out) (hi : l.length ≤ need.length) : out = O := by
  have h4 := h.2.2.2 hi
  rw [List.drop_length] at h4
  rw [← h4]
  cases p.drop (need.length - l.length) <;> rfl

/-! ### rows of numbers -/
theorem rowI_push {W : World} {g n i : Nat} {t : TypeId} {ix : List Int} (v : Int) (h : W.rowIs g t n (fun j => .int .i64 (ix.getD j 0))) (hl : ix.length = i) (hi : i < n) : (W.setCell ⟨g, i, none⟩ (.int .i64 v)).rowIs g t n (fun j => .int .i64 ((ix ++ [v]).getD j 0)) := by
  refine (h.set i (.int .i64 v)).congr (fun j hj => ?_)
  subst hl
  simp only [List.getD_eq_getElem?_getD]
  by_cases e : j = ix.length
  · subst e; simp
  · rw [if_neg e]
    by_cases h2 : j < ix.length
    · rw [List.getElem?_append_left h2]
    · rw [List.getElem?_append_right (by omega), List.getElem?_eq_none (by omega), List.getElem?_eq_none (by simp; omega)]
theorem rowI_turn {W : World} {g n i : Nat} {t : TypeId} {ix : List Int} {u : Int} (v : Int) (h : W.rowIs g t n (fun j => .int .i64 ((ix ++ [u]).getD j 0))) (hl : ix.length = i) (hi : i < n) : (W.setCell ⟨g, i, none⟩ (.int .i64 v)).rowIs g t n (fun j => .int .i64 ((ix ++ [v]).getD j 0)) := by
  refine (h.set i (.int .i64 v)).congr (fun j hj => ?_)
  subst hl
  simp only [List.getD_eq_getElem?_getD]
  by_cases e : j = ix.length
  · subst e; simp
  · rw [if_neg e]
    by_cases h2 : j < ix.length
    · rw [List.getElem?_append_left h2, List.getElem?_append_left h2]
    · rw [List.getElem?_append_right (by omega), List.getElem?_append_right (by omega), List.getElem?_eq_none (by simp; omega), List.getElem?_eq_none (by simp; omega)]
/-- one step, in a block of its own -/
theorem one_stp {S : Nat → Prop} {w : World} {g : Nat} {t : TypeId} {x y z : Int} (h : w.heap[g]? = some (.cells #[.int .i64 x, .int .i64 y, .int .i64 z] t (0, 0))) (hS : S g) : C kS S w (some ⟨g, 0, none⟩) [(x, y, z)] :=
  ⟨by simp [maxLen], fun _ => ⟨g, 0, rfl, hS, (Array.getElem?_eq_some_iff.1 h).1, fun j s hj => by
    cases j with
    | succ j => simp at hj
    | zero =>
      simp only [List.getElem?_cons_zero, Option.some.injEq] at hj
      subst hj
      refine ⟨_, kS_mk S w (x, y, z), fun i u hu => ?_⟩
      match i, hu with
      | 0, hu => simp only [List.getElem?_cons_zero, Option.some.injEq] at hu; subst hu; simp [World.cell?, h]
      | 1, hu => simp only [List.getElem?_cons_zero, List.getElem?_cons_succ, Option.some.injEq] at hu; subst hu; simp [World.cell?, h]
      | 2, hu => simp only [List.getElem?_cons_zero, List.getElem?_cons_succ, Option.some.injEq] at hu; subst hu; simp [World.cell?, h]
      | i + 3, hu => simp at hu⟩⟩
/-- append where the order is drawn -/
theorem wp_append_run {P : Program} {o : Oper} {a : Act} {w : World} {K : Act → World → Prop} {Q : Exit → Act → World → Prop} (s x : Operand) (t : TypeId)
    (hop : o.op = Op.call { callee := Callee.builtin Builtin.append, args := #[s, x], argTypes := #[t, t] }) (v vx : Value) (hs : a.eval s = v) (hx : a.eval x = vx) (v' : Value) (w' : World)
    (hrun : (Builtin.append_ #[t, t] o.type #[v, vx]).run P w = .ok v' w') (hK : K (a.put o.dst v') w') : Oper.wp P o a w K Q := by
  subst hs hx
  unfold Oper.wp
  simp [execOp, hop, resolve, invoke, builtin, hrun, Result.andThen]
  exact hK
end Go.Proofs.Ytggfjfmgclcnlaa.Zb
namespace Go.Proofs.Ytggfjfmgclcnlaa.Zb
open Go Go.RowKit Go.Shelf Go.Proofs.Ytggfjfmgclcnlaa.K Go.Proofs.Ytggfjfmgclcnlaa.G Go.Proofs.Ytggfjfmgclcnlaa.Z
set_option linter.unusedSimpArgs false
set_option linter.unusedVariables false

theorem need_ok {l : List Cls} {p : List Stp} (h : (needB l p).2 = 0) : (∃ all, Repl l p all) ∧ (needB l p).1.length = l.length + p.length ∧ p.length ≤ 20000 := by
  unfold needB at h ⊢
  by_cases h1 : (replB l p).2.2 = 0
  · obtain ⟨_, hp, all, hr, _, _⟩ := replB_inv h1
    rw [if_neg (fun e => e h1)] at h ⊢
    refine ⟨⟨all, hr⟩, ?_, hp⟩
    cases hf : firstE (l ++ (replB l p).1) with
    | none => rw [hf] at h; exact absurd (show (271 : Int) = 0 from h) (by decide)
    | some f => simp [markB_len]
  · rw [if_pos h1] at h; exact absurd h h1
theorem mine_stp {base : Nat} {S : Nat → Prop} {w : World} {v : Value} {xs : List Stp} (h : Mine kS base S w v xs) : Mine kS base NoB w v xs := by
  obtain ⟨A, cap, e, h1, h2, h3⟩ := h
  refine ⟨A, cap, e, h1, h2, h3.imp id ?_⟩
  rintro ⟨g, o, e1, e2, e3, e4, e5⟩
  exact ⟨g, o, e1, e2, e3, e4, fun j x hj => by
    obtain ⟨cs, hk, hc⟩ := e5 j x hj
    obtain rfl := kS_open hk
    exact ⟨_, kS_mk _ _ x, hc⟩⟩
def TrimEnd (w : World) (R : List Stp × Int) (e : Ending) (w' : World) : Prop :=
  (if R.2 = 0 then ∃ A c, e = .returned (.tuple #[.slice A R.1.length c, .int .i64 0]) ∧ Mine kS w.heap.size NoB w' (.slice A R.1.length c) R.1 else e = .returned (.tuple #[.slice none 0 0, .int .i64 R.2])) ∧ Below w.heap.size w w'
/-- the state of the loop: the steps so far, the new indices (block g), what is needed (block gn) -/
structure TrB (w : World) (g gn n : Nat) (vo : Value) (out : List Stp) (ix : List Int) (need : List Bool) (W : World) : Prop where
  out : Mine kS w.heap.size NoB W vo out
  row : W.rowIs g 3 n (fun j => .int .i64 (ix.getD j 0))
  nrow : W.rowIs gn 4 n (fun j => .bool (need.getD j false))
  ne : ∀ k, vo.ownBlock = some k → k ≠ g ∧ k ≠ gn
  below : Below w.heap.size w W

set_option maxRecDepth 100000 in
set_option maxHeartbeats 4000000 in
theorem trim_calls2 (Sl Sp : Nat → Prop) (Al Ap : Option Addr) (cl cp : Nat) (l : List Cls) (p : List Stp) (w : World) (hl : C kL Sl w Al l) (hcl : l.length ≤ cl) (hp : C kS Sp w Ap p) (hcp : p.length ≤ cp) (hll : l.length ≤ 1000000) (hlc : 500 < l.length ∨ ∀ c ∈ l, c.length ≤ 1000000000) (hpi : ∀ s ∈ p, -9223372036854775808 ≤ s.2.2 ∧ s.2.2 ≤ 9223372036854775807) :
    Calls Try.prog 21 #[.slice Al l.length cl, .slice Ap p.length cp] w (TrimEnd w (trimB l p)) := by
  have HN := Lib.hid (needed_calls2 Sl Sp Al Ap cl cp l p w hl hcl hp hcp hll hlc hpi)
  have HP := Lib.hid hp
  have hok0 := need_ok (l := l) (p := p)
  obtain ⟨⟨need, e0⟩, hM⟩ : ∃ q, needB l p = q := ⟨_, rfl⟩
  unfold trimB
  rw [hM] at HN hok0 ⊢
  dsimp only at hok0 ⊢
  clear hl hp hpi hlc hM
  by_cases hE : e0 = 0
  · subst hE
    obtain ⟨⟨all, hrep⟩, hlen, hp20⟩ := hok0 rfl
    rw [if_neg (fun e => e rfl)]
    have HRep := Lib.hid hrep
    obtain ⟨O, hO⟩ : ∃ O, trimF (fun a _ => (a : Int)) l.length p (need.drop l.length) (idL l.length) [] = O := ⟨_, rfl⟩
    rw [hO]
    have HO := Lib.hid hO
    obtain ⟨n, hn⟩ : ∃ n, need.length = n := ⟨_, rfl⟩
    have hn2 : l.length + p.length = n := by omega
    have Hn := Lib.hid hn
    have Hn2 := Lib.hid hn2
    have hlm : l.length ≤ 9223372036854775807 := by omega
    have hpm : p.length ≤ 9223372036854775807 := by omega
    have hnm : n ≤ 2000000 := by omega
    have HN2 := Lib.hid (HN.out.mono (R' := fun e w' => (∃ g, e = .returned (.tuple #[.slice (some ⟨g, 0, none⟩) n n, .int .i64 0]) ∧ w.heap.size ≤ g ∧ w'.rowIs g 4 n (fun j => .bool (need.getD j false))) ∧ Below w.heap.size w w') (fun e w' h => by
      unfold NeedEnd at h
      rw [if_pos rfl] at h
      dsimp only at h
      rw [hn] at h
      exact h))
    clear HN
    clear hrep hO hn hn2 hlen hok0
    go_enter Try.func21, Try.ntmps21
    go_wp2_with fail
    refine HN2.out.mono ?_
    rintro e w1 ⟨⟨gn, rfl, hgn, hrn⟩, hb1⟩
    have HRn := Lib.hid hrn
    have HB1 := Lib.hid hb1
    have hmk := run_make_row' (P := Try.prog) 44 3 (.int .i64 0) 8 Try.underlying44 infoI rfl .i64 .i64 n (by omega) (by omega) w1
    have hrow := World.rowIs_made w1 (.int .i64 0) n 3
    have hb5 : Below w.heap.size w (w1.alloc (.cells (madeCells #[.int .i64 0] n) 3)) := HB1.out.alloc HB1.out.size _
    have hrn5 := HRn.out.alloc (.cells (madeCells #[.int .i64 0] n) 3)
    have hgne : w1.heap.size ≠ gn := Nat.ne_of_gt HRn.out.lt
    have hg0 : w.heap.size ≤ w1.heap.size := HB1.out.size
    generalize w1.alloc (.cells (madeCells #[.int .i64 0] n) 3) = w5 at hmk hrow hb5 hrn5
    generalize w1.heap.size = g at hmk hrow hgne hg0
    have hS0 : Hid (TrB w g gn n (.slice none 0 0) [] [] need w5) := Lib.hid ⟨Mine.nil .., hrow.congr (fun i hi => by simp), hrn5, fun k e => by simp [Value.ownBlock] at e, hb5⟩
    clear hrow hb5 hrn5 hrn hb1 HN2 HRn HB1
    go_upto_region 7 with fail
    clear hmk
    go_loopg [8, 26] n (fun gg v8 v26 wr => ∃ (i : Nat) (out : List Stp) (ix : List Int) (A : Option Addr) (c : Nat), v8 = .slice A out.length c ∧ v26 = .int .i64 i ∧ i ≤ n ∧ n - i ≤ gg ∧ Hid (TrSt (fun a _ => (a : Int)) l p need O i ix out) ∧ Hid (TrB w g gn n (.slice A out.length c) out ix need wr))
    case atStart => exact ⟨0, [], [], none, 0, rfl, rfl, by omega, by omega, Lib.hid (TrSt.start HO.out), hS0⟩
    case round =>
      clear hS0
      obtain ⟨i, out, ix, A, c, rfl, rfl, hi, hgg, HT, HX⟩ := hrel
      by_cases hlt : i < n
      · have hltz : (i : Int) < (n : Int) := by omega
        have hi0 : (0 : Int) ≤ (i : Int) := by omega
        have Hlt := Lib.hid hlt
        have qc := HX.out.row.cell hlt
        have qf := HX.out.row.frozen i
        have hpush := rowI_push (i : Int) HX.out.row HT.out.1 hlt
        have hbw := HX.out.below.setCell (p := ⟨g, i, none⟩) hg0 (.int .i64 (i : Int))
        have hnr := HX.out.nrow.setOther (a := ⟨g, i, none⟩) (fun e => hgne e.symm) (.int .i64 (i : Int))
        have hmo : Mine kS w.heap.size NoB (wr.setCell ⟨g, i, none⟩ (.int .i64 (i : Int))) (.slice A out.length c) out := HX.out.out.chg (T := fun k => k = g) (Chg.setCell (T := fun k => k = g) (p := ⟨g, i, none⟩) rfl _) (fun _ h => h.elim) (fun k e => (HX.out.ne k e).1)
        have HX2 : Hid (TrB w g gn n (.slice A out.length c) out (ix ++ [(i : Int)]) need (wr.setCell ⟨g, i, none⟩ (.int .i64 (i : Int)))) := Lib.hid ⟨hmo, hpush, hnr, HX.out.ne, hbw⟩
        have qn := hnr.cell hlt
        by_cases hlo : i < l.length
        · have hloz : (i : Int) < (l.length : Int) := by omega
          have HT2 := Lib.hid (HT.out.low HO.out hlo)
          clear hpush hbw hnr hmo hlt
          go_wp2
          go_roundg (n - (i + 1))
          case measure => omega
          case rel => exact ⟨i + 1, out, ix ++ [(i : Int)], A, c, rfl, by go_num, Hlt.out, Nat.le_refl _, HT2, HX2⟩
        · have hloz : ¬ (i : Int) < (l.length : Int) := by omega
          have hj : i - l.length < p.length := by have := Hn2.out; omega
          cases hd : need.getD i false with
          | false =>
            rw [hd] at qn
            have HT2 := Lib.hid (HT.out.skip (by omega) hj (by rw [Hn.out]; exact hlt) hd)
            clear hpush hbw hnr hmo hlt hd
            go_wp2
            go_roundg (n - (i + 1))
            case measure => omega
            case rel => exact ⟨i + 1, out, ix ++ [(i : Int)], A, c, rfl, by go_num, Hlt.out, Nat.le_refl _, HT2, HX2⟩
          | true =>
            rw [hd] at qn
            obtain ⟨a, b, st, es, hai, hbi⟩ := rep_step HRep.out (i - l.length) hj
            have HT0 := HT.out.take (by omega) hj (by rw [Hn.out]; exact hlt) hd es
            obtain ⟨bp, op, rfl, hbp, p0, p1, p2⟩ := step_at (HP.out.below hbw) (i - l.length) hj
            rw [es] at p0 p1 p2
            dsimp only at p0 p1 p2
            obtain ⟨vv, hvv⟩ : ∃ vv : Nat, l.length + out.length = vv := ⟨_, rfl⟩
            have hol := HT.out.2.1
            have hil := HT.out.1
            have hsub : IntKind.i64.wrap ((i : Int) - (l.length : Int)) = ((i - l.length : Nat) : Int) := by rw [IntKind.wrap_i64]; omega
            have hadd : IntKind.i64.wrap ((l.length : Int) + (out.length : Int)) = (vv : Int) := by rw [IntKind.wrap_i64]; omega
            have hola : out.length ≤ 9223372036854775807 := by omega
            rw [hvv] at HT0
            have HT2 := Lib.hid HT0
            have Hil := Lib.hid hil
            have Hol := Lib.hid hol
            have han : a < n := by omega
            have hbn : b < n := by omega
            have haz : (a : Int) < (n : Int) := by omega
            have hbz : (b : Int) < (n : Int) := by omega
            have haz0 : (0 : Int) ≤ (a : Int) := by omega
            have hbz0 : (0 : Int) ≤ (b : Int) := by omega
            have hnj : ((i - l.length : Nat) : Int) < (p.length : Int) := by omega
            have hnj0 : (0 : Int) ≤ ((i - l.length : Nat) : Int) := by omega
            have Hai : Hid (a < i) := Lib.hid (by omega)
            have Hbi : Hid (b < i) := Lib.hid (by omega)
            clear hpush hnr hmo hd HT0 es hai hbi hvv hol hil hj
            generalize i - l.length = j at *
            go_upto_region 11 with fail
            generalize hW1 : wr.setCell ⟨g, i, none⟩ (.int .i64 (i : Int)) = W1 at hbw HX2 qn p0 p1 p2 ⊢
            clear hW1 qc qf HX
            have row2 := HX2.out.row.alloc (.cells #[.int .i64 (a : Int), .int .i64 (b : Int), .int .i64 st] 55)
            have nrow2 := HX2.out.nrow.alloc (.cells #[.int .i64 (a : Int), .int .i64 (b : Int), .int .i64 st] 55)
            have out2 := HX2.out.out.below ((Below.refl W1.heap.size W1).alloc (Nat.le_refl _) (.cells #[.int .i64 (a : Int), .int .i64 (b : Int), .int .i64 st] 55))
            have bel2 := hbw.alloc hbw.size (.cells #[.int .i64 (a : Int), .int .i64 (b : Int), .int .i64 st] 55)
            have qi := row2.cell hlt
            have qfi := row2.frozen i
            have hgs : W1.heap.size ≠ g := Nat.ne_of_gt HX2.out.row.lt
            have row3 := rowI_turn (vv : Int) row2 Hil.out hlt
            have nrow3 := nrow2.setOther (a := ⟨g, i, none⟩) (fun e => hgne e.symm) (.int .i64 (vv : Int))
            have out3 := out2.chg (Chg.setCell (T := fun k => k = g) (p := ⟨g, i, none⟩) rfl (.int .i64 (vv : Int))) (fun _ h => h.elim) (fun k e => (HX2.out.ne k e).1)
            have bel3 := bel2.setCell (p := ⟨g, i, none⟩) hg0 (.int .i64 (vv : Int))
            have ca := row3.cell han
            have cb := row3.cell hbn
            rw [show (ix ++ [(vv : Int)]).getD a 0 = ix.getD a 0 by simp [List.getD_eq_getElem?_getD, List.getElem?_append_left (show a < ix.length by rw [Hil.out]; exact Hai.out)]] at ca
            rw [show (ix ++ [(vv : Int)]).getD b 0 = ix.getD b 0 by simp [List.getD_eq_getElem?_getD, List.getElem?_append_left (show b < ix.length by rw [Hil.out]; exact Hbi.out)]] at cb
            have c0 : ((W1.alloc (.cells #[.int .i64 (a : Int), .int .i64 (b : Int), .int .i64 st] 55)).setCell ⟨g, i, none⟩ (.int .i64 (vv : Int))).cell? ⟨W1.heap.size, 0, none⟩ = some (.int .i64 (a : Int)) := (Chg.setCell (T := fun k => k = g) (p := ⟨g, i, none⟩) rfl (.int .i64 (vv : Int))).cell (by simp only [World.cell?, alloc_new]; rfl) hgs
            have c1 : ((W1.alloc (.cells #[.int .i64 (a : Int), .int .i64 (b : Int), .int .i64 st] 55)).setCell ⟨g, i, none⟩ (.int .i64 (vv : Int))).cell? ⟨W1.heap.size, 1, none⟩ = some (.int .i64 (b : Int)) := (Chg.setCell (T := fun k => k = g) (p := ⟨g, i, none⟩) rfl (.int .i64 (vv : Int))).cell (by simp only [World.cell?, alloc_new]; rfl) hgs
            have c2 : ((W1.alloc (.cells #[.int .i64 (a : Int), .int .i64 (b : Int), .int .i64 st] 55)).setCell ⟨g, i, none⟩ (.int .i64 (vv : Int))).cell? ⟨W1.heap.size, 2, none⟩ = some (.int .i64 st) := (Chg.setCell (T := fun k => k = g) (p := ⟨g, i, none⟩) rfl (.int .i64 (vv : Int))).cell (by simp only [World.cell?, alloc_new]; rfl) hgs
            clear row2 nrow2 out2 bel2
            go_upto_region 13 with fail
            have hown := fun k (e : (Value.slice A out.length c).ownBlock = some k) => (HX2.out.out.base_le e).2
            have hne0 := HX2.out.ne
            generalize hW3 : (W1.alloc (.cells #[.int .i64 (a : Int), .int .i64 (b : Int), .int .i64 st] 55)).setCell ⟨g, i, none⟩ (.int .i64 (vv : Int)) = W3 at row3 nrow3 out3 bel3 ca cb c0 c1 c2 ⊢
            clear hW3 HX2 qi qfi qn p0 p1 p2 hbw
            generalize W1.heap.size = gs at hgs hown c0 c1 c2 ⊢
            generalize hx : ix.getD a 0 = x at ca HT2
            generalize hy : ix.getD b 0 = y at cb HT2
            clear hx hy
            have hb4 : Below W3.heap.size W3 (W3.drew.alloc (.cells #[.int .i64 x, .int .i64 y, .int .i64 st] 55)) := (Chg.below1 W3).alloc (Nat.le_refl _) _
            obtain ⟨A', n', c', w', hrun, hn', hm, hg, ho⟩ := append_own (c := 1) (S := Any) (S' := fun k => k = W3.heap.size) (ys := [(x, y, st)]) (A := some ⟨W3.heap.size, 0, none⟩) Try.underlying29 infoS rfl (by decide) (by decide) ((out3.below hb4).mono (fun _ h => h.elim)) (one_stp (alloc_new W3.drew _) rfl) (fun k hk => ⟨trivial, fun e => by have := (out3.base_le e).2; omega⟩) (by have := Hol.out; simp; omega) (Nat.le_trans bel3.size hb4.size)
            have hch : Chg (fun k => (Value.slice A out.length c).ownBlock = some k) W3 w' := (Chg.of_fresh hb4).trans (Chg.grown hg (fun k e => .inl e))
            have d0 := hch.cell c0 (fun e => absurd (hown _ e) (Nat.lt_irrefl _))
            have d1 := hch.cell c1 (fun e => absurd (hown _ e) (Nat.lt_irrefl _))
            have d2 := hch.cell c2 (fun e => absurd (hown _ e) (Nat.lt_irrefl _))
            have da := hch.cell ca (fun e => (hne0 _ e).1 rfl)
            have db := hch.cell cb (fun e => (hne0 _ e).1 rfl)
            subst hn'
            have HX4 : Hid (TrB w g gn n (.slice A' (out ++ [(x, y, st)]).length c') (out ++ [(x, y, st)]) (ix ++ [(vv : Int)]) need w') := Lib.hid ⟨mine_stp hm, row3.of_block (hch.block _ row3.lt (fun e => (hne0 _ e).1 rfl)), nrow3.of_block (hch.block _ nrow3.lt (fun e => (hne0 _ e).2 rfl)), fun k e => by
              rcases ho k e with h1 | h1
              · exact hne0 k h1
              · have h2 := row3.lt; have h3 := nrow3.lt; have h4 := hb4.size; omega, bel3.trans (hch.below bel3.size (fun k e => (out3.base_le e).1))⟩
            have HRun := Lib.hid hrun
            clear hrun hm hg ho hch hb4 out3 row3 nrow3 bel3 hown hne0 hlt Hil Hol
            go_region_held3 (fun W' => W'.cell? ⟨gs, 0, none⟩ = some (.int .i64 (a : Int)) ∧ W'.cell? ⟨gs, 1, none⟩ = some (.int .i64 (b : Int)) ∧ W'.cell? ⟨gs, 2, none⟩ = some (.int .i64 st) ∧ W'.cell? ⟨g, a, none⟩ = some (.int .i64 x) ∧ W'.cell? ⟨g, b, none⟩ = some (.int .i64 y)) (go_keep)
              (first
                | (rw [if_pos (by rfl)]
                   refine wp_append_run _ _ _ rfl _ _ rfl rfl _ _ HRun.out ?_))
            all_goals
              go_wp2
              go_roundg (n - (i + 1))
              case measure => omega
              case rel => exact ⟨i + 1, out ++ [(x, y, st)], ix ++ [(vv : Int)], A', c', by rw [List.length_append]; rfl, by go_num, Hlt.out, Nat.le_refl _, HT2, HX4⟩
      · have hltz : ¬ (i : Int) < (n : Int) := by omega
        have ein : i = n := by omega
        subst ein
        have hout : out = O := (show TrSt (fun a _ => (a : Int)) l p need O need.length ix out by rw [Hn.out]; exact HT.out).done (by have := Hn2.out; rw [Hn.out]; omega)
        subst hout
        go_wp2
        go_ret2
        exact ⟨by rw [if_pos rfl]; exact ⟨_, _, rfl, HX.out.out⟩, HX.out.below⟩
  · rw [if_pos hE]
    have gE : (e0 != 0) = true := bne_iff_ne.2 hE
    have HE := Lib.hid hE
    have HN2 := Lib.hid (HN.out.mono (R' := fun e w' => e = .returned (.tuple #[.slice none 0 0, .int .i64 e0]) ∧ Below w.heap.size w w') (fun e w' h => by
      unfold NeedEnd at h
      rw [if_neg hE] at h
      exact h))
    clear hE hok0 HN
    go_enter Try.func21, Try.ntmps21
    go_wp2_with fail
    refine HN2.out.mono ?_
    rintro e w1 ⟨rfl, hb1⟩
    have HB1 := Lib.hid hb1
    clear HN2 hb1
    go_wp2
    go_ret2
    exact ⟨by rw [if_neg HE.out]; rfl, HB1.out⟩
theorem trim_calls (Sl Sp : Nat → Prop) (Al Ap : Option Addr) (cl cp : Nat) (l : List Cls) (p : List Stp) (w : World) (hl : C kL Sl w Al l) (hcl : l.length ≤ cl) (hp : C kS Sp w Ap p) (hcp : p.length ≤ cp) (hll : l.length ≤ 1000000) (hlc : ∀ c ∈ l, c.length ≤ 1000000000) (hpi : ∀ s ∈ p, -9223372036854775808 ≤ s.2.2 ∧ s.2.2 ≤ 9223372036854775807) :
    Calls Try.prog 21 #[.slice Al l.length cl, .slice Ap p.length cp] w (TrimEnd w (trimB l p)) := trim_calls2 Sl Sp Al Ap cl cp l p w hl hcl hp hcp hll (.inr hlc) hpi
end Go.Proofs.Ytggfjfmgclcnlaa.Zb
