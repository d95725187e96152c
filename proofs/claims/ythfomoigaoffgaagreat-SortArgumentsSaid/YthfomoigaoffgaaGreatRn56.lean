/- Walks: the law's same, arguments; EqualFunc of rows and of ground types. -/
import Derived.Test.YthfomoigaoffgaaGreatRn34
import Derived.Test.YthfomoigaoffgaaGreatStL
import Derived.Lib.MinMax
namespace Go.Proofs.YthfomoigaoffgaaGreat.Rn
open Go Go.RowKit Go.Shelf Go.Proofs.YthfomoigaoffgaaGreat.K Go.Proofs.YthfomoigaoffgaaGreat.G Go.Proofs.YthfomoigaoffgaaGreat.Ix Go.Proofs.YthfomoigaoffgaaGreat.O Go.Proofs.YthfomoigaoffgaaGreat.So Go.Proofs.YthfomoigaoffgaaGreat.Nd Go.Proofs.YthfomoigaoffgaaGreat.Gd
set_option linter.unusedSimpArgs false
set_option linter.unusedVariables false

set_option maxRecDepth 100000 in
set_option maxHeartbeats 2000000 in
theorem eqrows_calls {S S' : Nat → Prop} {A B : Option Addr} {ca cb : Nat} {l : List (List ByteArray)} {w : World} (ha : C (slice str) S w A l) (hb : C (slice str) S' w B l) :
    Calls Tryz.prog 10 #[.slice A l.length ca, .slice B l.length cb, .func (.func 11) #[] #[]] w fun e w' => e = .returned (.bool true) ∧ Below w.heap.size w w' := by
  have eg := enters_of Tryz.func11 (by kernel_rfl) rfl
  have hlm : l.length ≤ 9223372036854775807 := ha.len
  have HA := Lib.hid (fun (W : World) (h : Below w.heap.size w W) => ha.below h)
  have HB := Lib.hid (fun (W : World) (h : Below w.heap.size w W) => hb.below h)
  clear ha hb
  go_enter Tryz.func10, Tryz.ntmps10
  go_wp2_with fail
  go_loopg [17] l.length (fun gg v17 wr => ∃ i : Nat, v17 = .int .i64 i ∧ i ≤ l.length ∧ l.length - i ≤ gg ∧ Hid (Below w.heap.size w wr))
  case atStart => exact ⟨0, rfl, by omega, by omega, Lib.hid (Below.refl _ _)⟩
  case round =>
    obtain ⟨i, rfl, hi, hg, HD⟩ := hrel
    by_cases hlt : i < l.length
    · have hltz : (i : Int) < (l.length : Int) := by omega
      have hi0 : (0 : Int) ≤ (i : Int) := by omega
      have Hlt := Lib.hid hlt
      obtain ⟨b1, o1, A1, cp1, rfl, hb1, q1, hc1, hC1⟩ := Ch.sl_at (HA.out _ HD.out) i hlt
      obtain ⟨b2, o2, A2, cp2, rfl, hb2', q2, hc2, hC2⟩ := Ch.sl_at (HB.out _ HD.out) i hlt
      generalize l[i]'hlt = x at *
      have HQ := Lib.hid (equal_same (c1 := cp1) (c2 := cp2) hC1 hC2)
      clear hC1 hC2 hlt hb1 hb2' hc1 hc2
      go_wp2_with fail
      refine HQ.out.mono ?_
      rintro e w' ⟨rfl, hb'⟩
      have HD2 := Lib.hid (HD.out.trans (hb'.mono HD.out.size))
      clear hb'
      go_wp2
      go_roundg (l.length - (i + 1))
      case measure => have := Hlt.out; omega
      case rel => exact ⟨i + 1, by go_num, Hlt.out, Nat.le_refl _, HD2⟩
    · have hltz : ¬ (i : Int) < (l.length : Int) := by omega
      go_wp2
      go_ret
      exact ⟨rfl, HD.out⟩

/-- a ground type among others, its cells -/
theorem tr_at {e : Nat} {S : Nat → Prop} {w : World} {A : Option Addr} {l : List Tr} (h : C (rdTr (e + 1)) S w A l) (j : Nat) (hj : j < l.length) : ∃ b o nm args A' c', A = some ⟨b, o, none⟩ ∧ b < w.heap.size ∧ (l[j]'hj) = Tr.con nm args ∧ w.cell? ⟨b, o + j * 5, none⟩ = some (.int .i64 1) ∧ w.cell? ⟨b, o + j * 5 + 1, none⟩ = some (.string nm) ∧
    w.cell? ⟨b, o + j * 5 + 2, none⟩ = some (.int .i64 0) ∧ w.cell? ⟨b, o + j * 5 + 3, none⟩ = some (.slice none 0 0) ∧ w.cell? ⟨b, o + j * 5 + 4, none⟩ = some (.slice A' args.length c') ∧ C (rdTr e) S w A' args := by
  obtain ⟨b, o, cs, e1, _, hb, hK, hc⟩ := h.at_ j hj
  obtain ⟨nm, args, A', c', e2, rfl, _, hC⟩ := hK
  have e3 : (rdTr (e + 1)).sz = 5 := rfl
  rw [e3] at hc
  exact ⟨b, o, nm, args, A', c', e1, hb, e2, hc 0 _ rfl, hc 1 _ rfl, hc 2 _ rfl, hc 3 _ rfl, hc 4 _ rfl, hC⟩
/-- what is asked of EqualFunc over the arguments -/
def EqTr (d : Nat) : Prop := ∀ (A B : Option Addr) (ca cb : Nat) (l : List Tr) (w : World), C (rdTr d) Any w A l → C (rdTr d) Any w B l →
  Calls Tryz.prog 30 #[.slice A l.length ca, .slice B l.length cb, .func (.func 14) #[] #[]] w fun e w' => e = .returned (.bool true) ∧ Below w.heap.size w w'
set_option maxRecDepth 100000 in
set_option maxHeartbeats 2000000 in
theorem same_core {d : Nat} (h : EqTr d) (op : Int) (nm : ByteArray) (A B : Option Addr) (ca cb : Nat) (l : List Tr) (w : World) (ha : C (rdTr d) Any w A l) (hb : C (rdTr d) Any w B l) :
    Calls Tryz.prog 14 #[.agg #[.int .i64 op, .string nm, .int .i64 0, .slice none 0 0, .slice A l.length ca], .agg #[.int .i64 op, .string nm, .int .i64 0, .slice none 0 0, .slice B l.length cb]] w fun e w' => e = .returned (.bool true) ∧ Below w.heap.size w w' := by
  have hag2 := Tryz.isAgg42
  have hsz2 := Tryz.sizeOf42
  have HE := Lib.hid (fun (W : World) => equal_same (S := Any) (S' := Any) (A1 := none) (A2 := none) (c1 := 0) (c2 := 0) (xs := []) (w := W) (C.nil ..) (C.nil ..))
  have HQ := Lib.hid (fun (W : World) (hbl : Below w.heap.size w W) => h A B ca cb l W (ha.below hbl) (hb.below hbl))
  obtain ⟨W1, hW1⟩ : ∃ W1, (w.alloc (.cells #[.int .i64 op, .string nm, .int .i64 0, .slice none 0 0, .slice A l.length ca] 42)).alloc (.cells #[.int .i64 op, .string nm, .int .i64 0, .slice none 0 0, .slice B l.length cb] 42) = W1 := ⟨_, rfl⟩
  have HB1 : Hid (Below w.heap.size w W1) := Lib.hid (by rw [← hW1]; exact ((Below.refl _ _).alloc (Nat.le_refl _) _).alloc (by simp) _)
  have h1 : W1.heap[w.heap.size]? = some (.cells #[.int .i64 op, .string nm, .int .i64 0, .slice none 0 0, .slice A l.length ca] 42 (0, 0)) := by rw [← hW1]; exact (Below.heap_alloc _ _ _ (by simp)).trans (World.alloc_heap_new w _)
  have h2 : W1.heap[w.heap.size + 1]? = some (.cells #[.int .i64 op, .string nm, .int .i64 0, .slice none 0 0, .slice B l.length cb] 42 (0, 0)) := by
    rw [← hW1]
    have := World.alloc_heap_new (w.alloc (.cells #[.int .i64 op, .string nm, .int .i64 0, .slice none 0 0, .slice A l.length ca] 42)) (.cells #[.int .i64 op, .string nm, .int .i64 0, .slice none 0 0, .slice B l.length cb] 42)
    rwa [World.size_alloc] at this
  have HH := Lib.hid (And.intro h1 h2)
  obtain ⟨y0, y1, y2, y3, y4⟩ := cells5 h1
  obtain ⟨x0, x1, x2, x3, x4⟩ := cells5 h2
  have g0 : (op == op) = true := beq_self_eq_true _
  have g1 : (nm.toList == nm.toList) = true := beq_self_eq_true _
  clear h1 h2 ha hb
  go_enter Tryz.func14, Tryz.ntmps14
  go_wp2_with fail
  refine (HE.out _).mono ?_
  rintro e w2 ⟨rfl, hb2⟩
  have HB2 := Lib.hid (HB1.out.trans (hb2.mono HB1.out.size))
  have hk1 := (hb2.block _ (Array.getElem?_eq_some_iff.1 HH.out.1).1).trans HH.out.1
  have hk2 := (hb2.block _ (Array.getElem?_eq_some_iff.1 HH.out.2).1).trans HH.out.2
  clear y0 y1 y2 y3 y4 x0 x1 x2 x3 x4 hW1
  obtain ⟨y0, y1, y2, y3, y4⟩ := cells5 hk1
  obtain ⟨x0, x1, x2, x3, x4⟩ := cells5 hk2
  clear hk1 hk2 hb2
  go_wp2_with fail
  refine (HQ.out _ HB2.out).mono ?_
  rintro e w3 ⟨rfl, hb3⟩
  have HB3 := Lib.hid (HB2.out.trans (hb3.mono HB2.out.size))
  clear hb3
  go_wp2
  go_ret
  exact ⟨rfl, HB3.out⟩
set_option maxRecDepth 100000 in
set_option maxHeartbeats 4000000 in
theorem eqtr_calls : ∀ d, EqTr d
  | 0 => fun A B ca cb l w ha hb => by
    have eg := enters_of Tryz.func14 (by kernel_rfl) rfl
    have hl : l.length = 0 := by
      rcases Nat.eq_zero_or_pos l.length with h | h
      · exact h
      · obtain ⟨_, _, _, _, _, _, hK, _⟩ := ha.at_ 0 h
        exact hK.elim
    rw [hl]
    go_enter Tryz.func30, Tryz.ntmps30
    go_wp2_with fail
    go_loopg [17] 0 (fun gg v17 wr => ∃ i : Nat, v17 = .int .i64 i ∧ i ≤ 0 ∧ w = wr)
    case atStart => exact ⟨0, rfl, Nat.le_refl _, rfl⟩
    case round =>
      obtain ⟨i, rfl, hi, rfl⟩ := hrel
      have hltz : ¬ (i : Int) < 0 := by omega
      go_wp2
      go_ret
      exact ⟨rfl, Below.refl _ _⟩
  | d + 1 => fun A B ca cb l w ha hb => by
    have eg := enters_of Tryz.func14 (by kernel_rfl) rfl
    have hag2 := Tryz.isAgg42
    have hsz2 := Tryz.sizeOf42
    have hlm : l.length ≤ 9223372036854775807 := ha.len
    have HS := Lib.hid (same_core (eqtr_calls d))
    have HA := Lib.hid (fun (W : World) (h : Below w.heap.size w W) => ha.below h)
    have HB := Lib.hid (fun (W : World) (h : Below w.heap.size w W) => hb.below h)
    clear ha hb
    go_enter Tryz.func30, Tryz.ntmps30
    go_wp2_with fail
    go_loopg [17] l.length (fun gg v17 wr => ∃ i : Nat, v17 = .int .i64 i ∧ i ≤ l.length ∧ l.length - i ≤ gg ∧ Hid (Below w.heap.size w wr))
    case atStart => exact ⟨0, rfl, by omega, by omega, Lib.hid (Below.refl _ _)⟩
    case round =>
      obtain ⟨i, rfl, hi, hg, HD⟩ := hrel
      by_cases hlt : i < l.length
      · have hltz : (i : Int) < (l.length : Int) := by omega
        have hi0 : (0 : Int) ≤ (i : Int) := by omega
        have Hlt := Lib.hid hlt
        obtain ⟨b1, o1, nm, args, A1, cp1, rfl, hb1, ex, q0, q1, q2, q3, q4, hC1⟩ := tr_at (HA.out _ HD.out) i hlt
        obtain ⟨b2, o2, nm', args', A2, cp2, rfl, hb2, ex', r0, r1, r2, r3, r4, hC2⟩ := tr_at (HB.out _ HD.out) i hlt
        rw [ex] at ex'
        injection ex' with ex1 ex2
        subst ex1; subst ex2
        obtain ⟨W1, hW1⟩ : ∃ W1, wr.alloc (.cells #[.int .i64 1, .string nm, .int .i64 0, .slice none 0 0, .slice A1 args.length cp1] 42) = W1 := ⟨_, rfl⟩
        have hbl1 : Below wr.heap.size wr W1 := by rw [← hW1]; exact (Below.refl _ _).alloc (Nat.le_refl _) _
        have p0 := (hbl1.cell (p := ⟨b2, o2 + i * 5, none⟩) hb2).trans r0
        have p1 := (hbl1.cell (p := ⟨b2, o2 + i * 5 + 1, none⟩) hb2).trans r1
        have p2 := (hbl1.cell (p := ⟨b2, o2 + i * 5 + 2, none⟩) hb2).trans r2
        have p3 := (hbl1.cell (p := ⟨b2, o2 + i * 5 + 3, none⟩) hb2).trans r3
        have p4 := (hbl1.cell (p := ⟨b2, o2 + i * 5 + 4, none⟩) hb2).trans r4
        obtain ⟨W2, hW2⟩ : ∃ W2, W1.alloc (.cells #[.int .i64 1, .string nm, .int .i64 0, .slice none 0 0, .slice A2 args.length cp2] 42) = W2 := ⟨_, rfl⟩
        have hbl2 : Below W1.heap.size W1 W2 := by rw [← hW2]; exact (Below.refl _ _).alloc (Nat.le_refl _) _
        have hbl : Below wr.heap.size wr W2 := hbl1.trans (hbl2.mono hbl1.size)
        have k1 : W2.heap[wr.heap.size]? = some (.cells #[.int .i64 1, .string nm, .int .i64 0, .slice none 0 0, .slice A1 args.length cp1] 42 (0, 0)) := by
          have h0 : W1.heap[wr.heap.size]? = some (.cells #[.int .i64 1, .string nm, .int .i64 0, .slice none 0 0, .slice A1 args.length cp1] 42 (0, 0)) := by rw [← hW1]; exact World.alloc_heap_new wr _
          exact (hbl2.block _ (Array.getElem?_eq_some_iff.1 h0).1).trans h0
        have k2 : W2.heap[W1.heap.size]? = some (.cells #[.int .i64 1, .string nm, .int .i64 0, .slice none 0 0, .slice A2 args.length cp2] 42 (0, 0)) := by rw [← hW2]; exact World.alloc_heap_new W1 _
        obtain ⟨y0, y1, y2, y3, y4⟩ := cells5 k1
        obtain ⟨x0, x1, x2, x3, x4⟩ := cells5 k2
        have HQ := Lib.hid (HS.out 1 nm A1 A2 cp1 cp2 args W2 (hC1.below hbl) (hC2.below hbl))
        have HD1 := Lib.hid (HD.out.trans (hbl.mono HD.out.size))
        clear hC1 hC2 hlt hb1 hb2 ex hbl hbl1 hbl2 k1 k2
        go_upto_region 6 with fail
        clear hW1
        go_upto_region 7 with fail
        clear hW2
        go_wp2_with fail
        refine HQ.out.mono ?_
        rintro e w' ⟨rfl, hb'⟩
        have HD2 := Lib.hid (HD1.out.trans (hb'.mono HD1.out.size))
        clear hb'
        go_wp2
        go_roundg (l.length - (i + 1))
        case measure => have := Hlt.out; omega
        case rel => exact ⟨i + 1, by go_num, Hlt.out, Nat.le_refl _, HD2⟩
      · have hltz : ¬ (i : Int) < (l.length : Int) := by omega
        go_wp2
        go_ret
        exact ⟨rfl, HD.out⟩
/-- some number -/
def SomeI (w : World) (e : Ending) (w' : World) : Prop := ∃ z : Int, e = .returned (.int .i64 z) ∧ Below w.heap.size w w'
set_option maxRecDepth 100000 in
set_option maxHeartbeats 2000000 in
theorem arguments_calls (S : Nat → Prop) (r : Raw) (T : Thy) (w : World) (hT : ThyR S w r T) : Calls Tryz.prog 6 #[thyV r T] w (SomeI w) := by
  obtain ⟨nm, a1, c1, a2, c2, a3, c3, a4, n4, c4, a5, n5, c5, a6, n6, c6⟩ := r
  have HCt := Lib.hid (show C kTd S w a2 T.tys from hT.tys)
  have hl1 : T.tys.length ≤ 9223372036854775807 := hT.tys.len
  have hag := Tryz.isAgg29
  have hsz := Tryz.sizeOf29
  have hag3 := Tryz.isAgg54
  have hsz3 := Tryz.sizeOf54
  have HB1 := Lib.hid (St.first w ⟨nm, a1, c1, a2, c2, a3, c3, a4, n4, c4, a5, n5, c5, a6, n6, c6⟩ T)
  obtain ⟨z0, z1, z2, z3, z4, z5, z6⟩ := thy_cells HB1.out.copy
  dsimp only at z0 z1 z2 z3 z4 z5 z6
  clear hT
  unfold thyV
  go_enter Tryz.func6, Tryz.ntmps6
  go_wp2_with fail
  clear z0 z1 z2 z3 z4 z5 z6
  have HB2 := Lib.hid HB1.out.below
  clear HB1
  go_loopg [3, 9] T.tys.length (fun gg v3 v9 wr => ∃ (i : Nat) (z : Int), v3 = .int .i64 z ∧ v9 = .int .i64 i ∧ i ≤ T.tys.length ∧ T.tys.length - i ≤ gg ∧ Hid (Below w.heap.size w wr))
  case atStart => exact ⟨0, 0, rfl, rfl, by omega, by omega, HB2⟩
  case round =>
    clear HB2
    obtain ⟨i, z, rfl, rfl, hi, hg, HB⟩ := hrel
    by_cases hlt : i < T.tys.length
    · have hltz : (i : Int) < (T.tys.length : Int) := by omega
      have hi0 : (0 : Int) ≤ (i : Int) := by omega
      have Hlt := Lib.hid hlt
      obtain ⟨b2, o2, rfl, hbw2, p0, p1⟩ := Ch.td_at (HCt.out.below HB.out) i hlt
      generalize T.tys[i]'hlt = td at p0 p1
      obtain ⟨tn, ta⟩ := td
      dsimp only at p0 p1
      have HB3 := Lib.hid (HB.out.alloc HB.out.size (.cells #[.string tn, .int .i64 ta] 54))
      clear hlt hbw2
      go_wp2
      go_roundg (T.tys.length - (i + 1))
      case measure => have := Hlt.out; omega
      case rel => exact ⟨i + 1, _, rfl, by go_num, Hlt.out, Nat.le_refl _, HB3⟩
    · have hltz : ¬ (i : Int) < (T.tys.length : Int) := by omega
      go_wp2
      go_ret
      exact ⟨_, rfl, HB.out⟩
end Go.Proofs.YthfomoigaoffgaaGreat.Rn
namespace Go.Proofs.YthfomoigaoffgaaGreat.Rn
open Go Go.RowKit Go.Shelf Go.Proofs.YthfomoigaoffgaaGreat.K Go.Proofs.YthfomoigaoffgaaGreat.G Go.Proofs.YthfomoigaoffgaaGreat.Ix Go.Proofs.YthfomoigaoffgaaGreat.O Go.Proofs.YthfomoigaoffgaaGreat.So Go.Proofs.YthfomoigaoffgaaGreat.Nd Go.Proofs.YthfomoigaoffgaaGreat.Gd
set_option linter.unusedSimpArgs false
set_option linter.unusedVariables false

theorem arsS_of {T : Thy} (h : fewB T = true) (hty : ∀ d ∈ T.tys, d.1.size ≤ maxLen) (har : ∀ a ∈ T.ars, a.1.size ≤ maxLen ∧ a.2.1.size ≤ maxLen ∧ ∀ s ∈ a.2.2, ∀ y ∈ s, y.size ≤ maxLen) : Ch.ArsS T := by
  refine ⟨hty, fun a ha => ?_, fewB_sups h⟩
  obtain ⟨h1, h2, h3⟩ := har a ha
  simp only [fewB, Bool.and_eq_true] at h
  have hf := List.all_eq_true.1 h.2.2 a ha
  simp only [fewAr, Bool.and_eq_true, decide_eq_true_eq] at hf
  exact ⟨h1, h2, by omega, fun s hs => ⟨by have := fewS_mem hf.2 hs; omega, h3 s hs⟩⟩
theorem few_cls {T : Thy} (h : fewB T = true) : T.cls.length ≤ 25 := by
  simp only [fewB, Bool.and_eq_true, decide_eq_true_eq] at h
  omega
theorem few1_calls {Sa : Nat → Prop} {Aa : Option Addr} {ca : Nat} {a : List ByteArray} {W : World} (ha : C str Sa W Aa a) (hca : a.length ≤ ca) :
    Calls Tryz.prog 5 #[.slice (some ⟨W.heap.size, 0, none⟩) 1 1] (W.alloc (.cells #[.slice Aa a.length ca] 27)) fun e W' => e = .returned (.bool (fewS [a])) ∧ Below W.heap.size W W' := by
  have hbx : Below W.heap.size W (W.alloc (.cells #[.slice Aa a.length ca] 27)) := (Below.refl _ _).alloc (Nat.le_refl _) _
  refine (fewS_calls Any (some ⟨W.heap.size, 0, none⟩) 1 [a] _ (one_sort ha hca) (Nat.le_refl _)).mono ?_
  rintro e W' ⟨rfl, hb'⟩
  exact ⟨rfl, hbx.trans (hb'.mono (by simp))⟩
/-- what Ground returns, as cells; the type it stands for -/
def GdA (d : Nat) (D : Option Tr) (op : Int) (nm : ByteArray) (A : Option Addr) (n c : Nat) (ok : Bool) (W : World) : Prop :=
  ok = D.isSome ∧ ∃ (l : List Tr), n = l.length ∧ C (rdTr (d - 1)) Any W A l ∧ (match D with
    | none => op = 0 ∧ nm = ⟨#[]⟩ ∧ l = []
    | some x => op = 1 ∧ x = Tr.con nm l)
theorem gdEnd_any {d : Nat} {w w' : World} {D : Option Tr} {er : Int} {e : Ending} (h : GdEnd d w (D, er) e w') : ∃ op nm A n c ok, e = .returned (.tuple #[.agg #[.int .i64 op, .string nm, .int .i64 0, .slice none 0 0, .slice A n c], .bool ok, .int .i64 er]) ∧ GdA d D op nm A n c ok w' ∧ Below w.heap.size w w' := by
  obtain ⟨h1, h2⟩ := h
  cases D with
  | none => exact ⟨0, ⟨#[]⟩, none, 0, 0, false, h1, ⟨rfl, [], rfl, C.nil .., rfl, rfl, rfl⟩, h2⟩
  | some x =>
    obtain ⟨nm, n, A, c, e1, hK⟩ := h1
    refine ⟨1, nm, A, n, c, true, e1, ?_, h2⟩
    cases d with
    | zero => exact hK.elim
    | succ d =>
      obtain ⟨nm', args, A', c', e2, e3, _, hC⟩ := hK
      simp only [List.cons.injEq, Value.string.injEq, Value.slice.injEq, and_true, true_and] at e3
      obtain ⟨rfl, rfl, rfl, rfl⟩ := e3
      exact ⟨rfl, args, rfl, hC.mono (fun _ _ => trivial), rfl, e2⟩

set_option maxRecDepth 100000 in
set_option maxHeartbeats 16000000 in
theorem sortArguments_calls (S Sa : Nat → Prop) (r : Raw) (T : Thy) (t : ByteArray) (Aa : Option Addr) (ca : Nat) (a : List ByteArray) (dp : Int) (w : World) (hT : ThyR S w r T) (ha : C str Sa w Aa a) (hca : a.length ≤ ca)
    (hal : ∀ x ∈ a, x.size ≤ maxLen) (hty : ∀ d ∈ T.tys, d.1.size ≤ maxLen) (har : ∀ a ∈ T.ars, a.1.size ≤ maxLen ∧ a.2.1.size ≤ maxLen ∧ ∀ s ∈ a.2.2, ∀ y ∈ s, y.size ≤ maxLen) :
    Calls Tryz.prog 3 #[thyV r T, .string t, .slice Aa a.length ca, .int .i64 dp] w fun e w' => e = .returned (.bool true) ∧ Below w.heap.size w w' := by
  have hst := St.first w r T
  obtain ⟨z0, z1, z2, z3, z4, z5, z6⟩ := thy_cells hst.copy
  have hag := Tryz.isAgg29
  have hsz := Tryz.sizeOf29
  have hag2 := Tryz.isAgg42
  have hsz2 := Tryz.sizeOf42
  have HF := Lib.hid (few_calls S r T _ (hT.below hst.below))
  have HT := Lib.hid hT
  have HA := Lib.hid ha
  have HST := Lib.hid hst
  have HAW := Lib.hid (fun W => awake_calls W)
  have l1 : a.length ≤ 9223372036854775807 := ha.len
  generalize hR : fewB T = R at HF
  have HR := Lib.hid hR
  have HTy := Lib.hid hty
  have HAr := Lib.hid har
  have HAl := Lib.hid hal
  clear hT ha hst hR hty har hal
  unfold thyV
  go_enter Tryz.func3, Tryz.ntmps3
  go_wp2_with fail
  refine HF.out.mono ?_
  rintro e w1 ⟨rfl, hb1⟩
  have HST1 := Lib.hid (HST.out.step hb1)
  clear hb1 z0 z1 z2 z3 z4 z5 z6 HF HST
  cases R with
  | false =>
    go_wp2_with fail
    refine (HAW.out _).mono ?_
    rintro e wz ⟨rfl, hbz⟩
    have HSTz := Lib.hid (HST1.out.step hbz)
    clear hbz
    go_wp2
    go_ret
    exact ⟨rfl, HSTz.out.below⟩
  | true =>
    have HS := Lib.hid (arsS_of HR.out HTy.out HAr.out)
    have hcl := few_cls HR.out
    go_wp2_with fail
    refine (few1_calls (HA.out.below HST1.out.below) hca).mono ?_
    rintro e w2 ⟨rfl, hb2⟩
    have HST2 := Lib.hid (HST1.out.step hb2)
    clear hb2
    cases hfs : fewS [a] with
    | false =>
      clear hfs
      go_wp2_with fail
      refine (HAW.out _).mono ?_
      rintro e wz ⟨rfl, hbz⟩
      have HSTz := Lib.hid (HST2.out.step hbz)
      clear hbz
      go_wp2
      go_ret
      exact ⟨rfl, HSTz.out.below⟩
    | true =>
      have la : a.length ≤ 25 := fewS_mem hfs (by simp)
      have HArg := Lib.hid (fun W (h : St w r T W) => arguments_calls S r T W (HT.out.below h.below))
      have HN1 := Lib.hid (fun W (h : St w r T W) => args_calls S Sa r T t Aa ca a W (HT.out.below h.below) HS.out (HA.out.below h.below) hca la HAl.out)
      have HN2 := Lib.hid (fun W (h : St w r T W) => rargs_calls S Sa r T t Aa ca a W (HT.out.below h.below) HS.out (HA.out.below h.below) hca la)
      have HG1 := Lib.hid (fun W (h : St w r T W) => Gd.Ground_calls S Sa r T Aa ca a dp W (HT.out.below h.below) HS.out hcl (HA.out.below h.below) hca la HAl.out)
      have HG2 := Lib.hid (fun W (h : St w r T W) => rGround_calls S Sa r T Aa ca a dp W (HT.out.below h.below) HS.out hcl (HA.out.below h.below) hca la)
      generalize argsB T.cls T.tys T.ars t a = E1 at HN1 HN2
      obtain ⟨x, ex⟩ := E1
      generalize groundT T.cls T.tys T.ars a dp = E2 at HG1 HG2
      obtain ⟨D, ey⟩ := E2
      have HG1 := Lib.hid (fun W h => (HG1.out W h).mono (fun _ _ h => gdEnd_any h))
      have HG2 := Lib.hid (fun W h => (HG2.out W h).mono (fun _ _ h => gdEnd_any h))
      unfold ArgEnd at HN1 HN2
      dsimp only at HN1 HN2
      clear hfs HS hcl la HT HA HTy HAr HAl HR hca
      unfold thyV thyC at HArg HN1 HN2 HG1 HG2
      obtain ⟨z0, z1, z2, z3, z4, z5, z6⟩ := thy_cells HST2.out.copy
      have hdc : (3 < dp ∧ dp < 6) ∨ dp = 3 ∨ (dp ≠ 3 ∧ (¬ 3 < dp ∨ ¬ dp < 6)) := by omega
      rcases hdc with ⟨g1, g2⟩ | rfl | ⟨g1, g2⟩
      · have g3 : dp > 3 := g1
        clear z0 z1 z2 z3 z4 z5 z6
        go_wp2_with fail
        refine (HAW.out _).mono ?_
        rintro e wz ⟨rfl, hbz⟩
        have HSTz := Lib.hid (HST2.out.step hbz)
        clear hbz
        go_wp2
        go_ret
        exact ⟨rfl, HSTz.out.below⟩
      · have HA2 := Lib.hid (HArg.out _ HST2.out)
        clear HArg
        go_wp2_with fail
        refine HA2.out.mono ?_
        rintro e w3 ⟨zz, rfl, hb3⟩
        have HST3 := Lib.hid (HST2.out.step hb3)
        clear hb3 z0 z1 z2 z3 z4 z5 z6 HA2
        by_cases g4 : 25 < zz
        · have g5 : zz > 25 := g4
          go_wp2_with fail
          refine (HAW.out _).mono ?_
          rintro e wz ⟨rfl, hbz⟩
          have HSTz := Lib.hid (HST3.out.step hbz)
          clear hbz
          go_wp2
          go_ret
          exact ⟨rfl, HSTz.out.below⟩
        · obtain ⟨z0, z1, z2, z3, z4, z5, z6⟩ := thy_cells HST3.out.copy
          have g5 : ¬ zz > 25 := g4
          have hx : True := trivial
          clear HST2
          go_wp2_with fail
          refine (HN1.out _ HST3.out).mono ?_
          rintro e w4 ⟨A4, c4, rfl, hc4, hC4, hb4⟩
          have HST4 := Lib.hid (HST3.out.step hb4)
          have HC4 := Lib.hid hC4
          clear hb4 hC4 hc4 z0 z1 z2 z3 z4 z5 z6 HST3 HN1
          obtain ⟨z0, z1, z2, z3, z4, z5, z6⟩ := thy_cells HST4.out.copy
          go_wp2_with fail
          refine (HN2.out _ HST4.out).mono ?_
          rintro e w5 ⟨A5, c5, rfl, hc5, hC5, hb5⟩
          have HST5 := Lib.hid (HST4.out.step hb5)
          have HC4' := Lib.hid (HC4.out.below hb5)
          have HC5 := Lib.hid hC5
          have n1 : (ex != ex) = false := bne_self_eq_false _
          clear hb5 hC5 hc5 z0 z1 z2 z3 z4 z5 z6 HST4 HN2 HC4
          go_wp2_with fail
          refine (eqrows_calls HC4'.out HC5.out).mono ?_
          rintro e w6 ⟨rfl, hb6⟩
          have HST6 := Lib.hid (HST5.out.step hb6)
          clear hb6 HST5 HC4' HC5
          obtain ⟨z0, z1, z2, z3, z4, z5, z6⟩ := thy_cells HST6.out.copy
          go_wp2_with fail
          refine (HG1.out _ HST6.out).mono ?_
          rintro e w7 ⟨op7, nm7, A7, n7, c7, ok7, rfl, hg7, hb7⟩
          have hbx : Below w7.heap.size w7 (w7.alloc (.cells #[.int .i64 op7, .string nm7, .int .i64 0, .slice none 0 0, .slice A7 n7 c7] 42)) := (Below.refl _ _).alloc (Nat.le_refl _) _
          have HST7 := Lib.hid (HST6.out.step hb7)
          have HST8 := Lib.hid (HST7.out.step hbx)
          have HGA := Lib.hid hg7
          have hk8 := World.alloc_heap_new w7 (.cells #[.int .i64 op7, .string nm7, .int .i64 0, .slice none 0 0, .slice A7 n7 c7] 42)
          have HK8 := Lib.hid hk8
          have HBX := Lib.hid (fun (d : Nat) (l : List Tr) (A : Option Addr) (h : C (rdTr d) Any w7 A l) => h.below hbx)
          clear hb7 hg7 hbx hk8 z0 z1 z2 z3 z4 z5 z6 HST6 HG1
          obtain ⟨z0, z1, z2, z3, z4, z5, z6⟩ := thy_cells HST8.out.copy
          go_upto_region 8 with fail
          generalize w7.alloc (.cells #[.int .i64 op7, .string nm7, .int .i64 0, .slice none 0 0, .slice A7 n7 c7] 42) = w8 at *
          generalize w7.heap.size = g8 at *
          go_wp2_with fail
          refine (HG2.out _ HST8.out).mono ?_
          rintro e w9 ⟨op9, nm9, A9, n9, c9, ok9, rfl, hg9, hb9⟩
          have hk9 := (hb9.block _ (Array.getElem?_eq_some_iff.1 HK8.out).1).trans HK8.out
          have hby : Below w9.heap.size w9 (w9.alloc (.cells #[.int .i64 op9, .string nm9, .int .i64 0, .slice none 0 0, .slice A9 n9 c9] 42)) := (Below.refl _ _).alloc (Nat.le_refl _) _
          have HSTa := Lib.hid ((HST8.out.step hb9).step hby)
          have hka := (hby.block _ (Array.getElem?_eq_some_iff.1 hk9).1).trans hk9
          have hkb := World.alloc_heap_new w9 (.cells #[.int .i64 op9, .string nm9, .int .i64 0, .slice none 0 0, .slice A9 n9 c9] 42)
          have HB9 := Lib.hid hb9
          have HBY := Lib.hid (fun (d : Nat) (l : List Tr) (A : Option Addr) (h : C (rdTr d) Any w9 A l) => h.below hby)
          have HGB := Lib.hid hg9
          have HKa := Lib.hid (And.intro hka hkb)
          clear hb9 hg9 hby hk9 hka hkb z0 z1 z2 z3 z4 z5 z6 HG2 HST8
          go_upto_region 9 with fail
          generalize hwa : w9.alloc (.cells #[.int .i64 op9, .string nm9, .int .i64 0, .slice none 0 0, .slice A9 n9 c9] 42) = wa at *
          clear hwa
          generalize w9.heap.size = g9 at *
          obtain ⟨ho7, l7, hl7, hC7, hm7⟩ := HGA.out
          obtain ⟨ho9, l9, hl9, hC9, hm9⟩ := HGB.out
          have hsame : op7 = op9 ∧ nm7 = nm9 ∧ l7 = l9 ∧ ok7 = ok9 := by
            refine ⟨?_, ?_, ?_, ho7.trans ho9.symm⟩
            · cases D with
              | none => exact hm7.1.trans hm9.1.symm
              | some x => exact hm7.1.trans hm9.1.symm
            · cases D with
              | none => exact hm7.2.1.trans hm9.2.1.symm
              | some x => have := hm7.2.symm.trans hm9.2; injection this
            · cases D with
              | none => exact hm7.2.2.trans hm9.2.2.symm
              | some x => have := hm7.2.symm.trans hm9.2; injection this
          obtain ⟨rfl, rfl, rfl, rfl⟩ := hsame
          subst hl7
          subst hl9
          have HSm := Lib.hid (same_core (eqtr_calls _) op7 nm7 A7 A9 c7 c9 l7 wa (HBY.out _ _ _ ((HBX.out _ _ _ hC7).below HB9.out)) (HBY.out _ _ _ hC9))
          obtain ⟨y0, y1, y2, y3, y4⟩ := cells5 HKa.out.1
          obtain ⟨x0, x1, x2, x3, x4⟩ := cells5 HKa.out.2
          have n2 : (ey == ey) = true := beq_self_eq_true _
          have n3 : (ok7 == ok7) = true := beq_self_eq_true _
          clear ho7 hC7 hm7 ho9 hC9 hm9 HGA HGB HKa HBX HB9 HBY HK8
          go_wp2_with fail
          refine HSm.out.mono ?_
          rintro e wb ⟨rfl, hbb⟩
          have HSTb := Lib.hid (HSTa.out.step hbb)
          clear hbb HSTa
          go_wp2_with fail
          refine (HAW.out _).mono ?_
          rintro e wz ⟨rfl, hbz⟩
          have HSTz := Lib.hid (HSTb.out.step hbz)
          clear hbz
          go_wp2
          go_ret
          exact ⟨rfl, HSTz.out.below⟩
      · have g4 : (dp == 3) = false := beq_eq_false_iff_ne.2 g1
        rcases g2 with g2 | g2
        · have g5 : ¬ dp > 3 := g2
          have HST3 := HST2
          clear HST2 HArg
          go_wp2_with fail
          refine (HN1.out _ HST3.out).mono ?_
          rintro e w4 ⟨A4, c4, rfl, hc4, hC4, hb4⟩
          have HST4 := Lib.hid (HST3.out.step hb4)
          have HC4 := Lib.hid hC4
          clear hb4 hC4 hc4 z0 z1 z2 z3 z4 z5 z6 HST3 HN1
          obtain ⟨z0, z1, z2, z3, z4, z5, z6⟩ := thy_cells HST4.out.copy
          go_wp2_with fail
          refine (HN2.out _ HST4.out).mono ?_
          rintro e w5 ⟨A5, c5, rfl, hc5, hC5, hb5⟩
          have HST5 := Lib.hid (HST4.out.step hb5)
          have HC4' := Lib.hid (HC4.out.below hb5)
          have HC5 := Lib.hid hC5
          have n1 : (ex != ex) = false := bne_self_eq_false _
          clear hb5 hC5 hc5 z0 z1 z2 z3 z4 z5 z6 HST4 HN2 HC4
          go_wp2_with fail
          refine (eqrows_calls HC4'.out HC5.out).mono ?_
          rintro e w6 ⟨rfl, hb6⟩
          have HST6 := Lib.hid (HST5.out.step hb6)
          clear hb6 HST5 HC4' HC5
          obtain ⟨z0, z1, z2, z3, z4, z5, z6⟩ := thy_cells HST6.out.copy
          go_wp2_with fail
          refine (HG1.out _ HST6.out).mono ?_
          rintro e w7 ⟨op7, nm7, A7, n7, c7, ok7, rfl, hg7, hb7⟩
          have hbx : Below w7.heap.size w7 (w7.alloc (.cells #[.int .i64 op7, .string nm7, .int .i64 0, .slice none 0 0, .slice A7 n7 c7] 42)) := (Below.refl _ _).alloc (Nat.le_refl _) _
          have HST7 := Lib.hid (HST6.out.step hb7)
          have HST8 := Lib.hid (HST7.out.step hbx)
          have HGA := Lib.hid hg7
          have hk8 := World.alloc_heap_new w7 (.cells #[.int .i64 op7, .string nm7, .int .i64 0, .slice none 0 0, .slice A7 n7 c7] 42)
          have HK8 := Lib.hid hk8
          have HBX := Lib.hid (fun (d : Nat) (l : List Tr) (A : Option Addr) (h : C (rdTr d) Any w7 A l) => h.below hbx)
          clear hb7 hg7 hbx hk8 z0 z1 z2 z3 z4 z5 z6 HST6 HG1
          obtain ⟨z0, z1, z2, z3, z4, z5, z6⟩ := thy_cells HST8.out.copy
          go_upto_region 8 with fail
          generalize w7.alloc (.cells #[.int .i64 op7, .string nm7, .int .i64 0, .slice none 0 0, .slice A7 n7 c7] 42) = w8 at *
          generalize w7.heap.size = g8 at *
          go_wp2_with fail
          refine (HG2.out _ HST8.out).mono ?_
          rintro e w9 ⟨op9, nm9, A9, n9, c9, ok9, rfl, hg9, hb9⟩
          have hk9 := (hb9.block _ (Array.getElem?_eq_some_iff.1 HK8.out).1).trans HK8.out
          have hby : Below w9.heap.size w9 (w9.alloc (.cells #[.int .i64 op9, .string nm9, .int .i64 0, .slice none 0 0, .slice A9 n9 c9] 42)) := (Below.refl _ _).alloc (Nat.le_refl _) _
          have HSTa := Lib.hid ((HST8.out.step hb9).step hby)
          have hka := (hby.block _ (Array.getElem?_eq_some_iff.1 hk9).1).trans hk9
          have hkb := World.alloc_heap_new w9 (.cells #[.int .i64 op9, .string nm9, .int .i64 0, .slice none 0 0, .slice A9 n9 c9] 42)
          have HB9 := Lib.hid hb9
          have HBY := Lib.hid (fun (d : Nat) (l : List Tr) (A : Option Addr) (h : C (rdTr d) Any w9 A l) => h.below hby)
          have HGB := Lib.hid hg9
          have HKa := Lib.hid (And.intro hka hkb)
          clear hb9 hg9 hby hk9 hka hkb z0 z1 z2 z3 z4 z5 z6 HG2 HST8
          go_upto_region 9 with fail
          generalize hwa : w9.alloc (.cells #[.int .i64 op9, .string nm9, .int .i64 0, .slice none 0 0, .slice A9 n9 c9] 42) = wa at *
          clear hwa
          generalize w9.heap.size = g9 at *
          obtain ⟨ho7, l7, hl7, hC7, hm7⟩ := HGA.out
          obtain ⟨ho9, l9, hl9, hC9, hm9⟩ := HGB.out
          have hsame : op7 = op9 ∧ nm7 = nm9 ∧ l7 = l9 ∧ ok7 = ok9 := by
            refine ⟨?_, ?_, ?_, ho7.trans ho9.symm⟩
            · cases D with
              | none => exact hm7.1.trans hm9.1.symm
              | some x => exact hm7.1.trans hm9.1.symm
            · cases D with
              | none => exact hm7.2.1.trans hm9.2.1.symm
              | some x => have := hm7.2.symm.trans hm9.2; injection this
            · cases D with
              | none => exact hm7.2.2.trans hm9.2.2.symm
              | some x => have := hm7.2.symm.trans hm9.2; injection this
          obtain ⟨rfl, rfl, rfl, rfl⟩ := hsame
          subst hl7
          subst hl9
          have HSm := Lib.hid (same_core (eqtr_calls _) op7 nm7 A7 A9 c7 c9 l7 wa (HBY.out _ _ _ ((HBX.out _ _ _ hC7).below HB9.out)) (HBY.out _ _ _ hC9))
          obtain ⟨y0, y1, y2, y3, y4⟩ := cells5 HKa.out.1
          obtain ⟨x0, x1, x2, x3, x4⟩ := cells5 HKa.out.2
          have n2 : (ey == ey) = true := beq_self_eq_true _
          have n3 : (ok7 == ok7) = true := beq_self_eq_true _
          clear ho7 hC7 hm7 ho9 hC9 hm9 HGA HGB HKa HBX HB9 HBY HK8
          go_wp2_with fail
          refine HSm.out.mono ?_
          rintro e wb ⟨rfl, hbb⟩
          have HSTb := Lib.hid (HSTa.out.step hbb)
          clear hbb HSTa
          go_wp2_with fail
          refine (HAW.out _).mono ?_
          rintro e wz ⟨rfl, hbz⟩
          have HSTz := Lib.hid (HSTb.out.step hbz)
          clear hbz
          go_wp2
          go_ret
          exact ⟨rfl, HSTz.out.below⟩
        · have g5 : dp > 3 := by omega
          have g6 : (3 : Int) < dp := by omega
          have HST3 := HST2
          clear HST2 HArg
          go_wp2_with fail
          refine (HN1.out _ HST3.out).mono ?_
          rintro e w4 ⟨A4, c4, rfl, hc4, hC4, hb4⟩
          have HST4 := Lib.hid (HST3.out.step hb4)
          have HC4 := Lib.hid hC4
          clear hb4 hC4 hc4 z0 z1 z2 z3 z4 z5 z6 HST3 HN1
          obtain ⟨z0, z1, z2, z3, z4, z5, z6⟩ := thy_cells HST4.out.copy
          go_wp2_with fail
          refine (HN2.out _ HST4.out).mono ?_
          rintro e w5 ⟨A5, c5, rfl, hc5, hC5, hb5⟩
          have HST5 := Lib.hid (HST4.out.step hb5)
          have HC4' := Lib.hid (HC4.out.below hb5)
          have HC5 := Lib.hid hC5
          have n1 : (ex != ex) = false := bne_self_eq_false _
          clear hb5 hC5 hc5 z0 z1 z2 z3 z4 z5 z6 HST4 HN2 HC4
          go_wp2_with fail
          refine (eqrows_calls HC4'.out HC5.out).mono ?_
          rintro e w6 ⟨rfl, hb6⟩
          have HST6 := Lib.hid (HST5.out.step hb6)
          clear hb6 HST5 HC4' HC5
          obtain ⟨z0, z1, z2, z3, z4, z5, z6⟩ := thy_cells HST6.out.copy
          go_wp2_with fail
          refine (HG1.out _ HST6.out).mono ?_
          rintro e w7 ⟨op7, nm7, A7, n7, c7, ok7, rfl, hg7, hb7⟩
          have hbx : Below w7.heap.size w7 (w7.alloc (.cells #[.int .i64 op7, .string nm7, .int .i64 0, .slice none 0 0, .slice A7 n7 c7] 42)) := (Below.refl _ _).alloc (Nat.le_refl _) _
          have HST7 := Lib.hid (HST6.out.step hb7)
          have HST8 := Lib.hid (HST7.out.step hbx)
          have HGA := Lib.hid hg7
          have hk8 := World.alloc_heap_new w7 (.cells #[.int .i64 op7, .string nm7, .int .i64 0, .slice none 0 0, .slice A7 n7 c7] 42)
          have HK8 := Lib.hid hk8
          have HBX := Lib.hid (fun (d : Nat) (l : List Tr) (A : Option Addr) (h : C (rdTr d) Any w7 A l) => h.below hbx)
          clear hb7 hg7 hbx hk8 z0 z1 z2 z3 z4 z5 z6 HST6 HG1
          obtain ⟨z0, z1, z2, z3, z4, z5, z6⟩ := thy_cells HST8.out.copy
          go_upto_region 8 with fail
          generalize w7.alloc (.cells #[.int .i64 op7, .string nm7, .int .i64 0, .slice none 0 0, .slice A7 n7 c7] 42) = w8 at *
          generalize w7.heap.size = g8 at *
          go_wp2_with fail
          refine (HG2.out _ HST8.out).mono ?_
          rintro e w9 ⟨op9, nm9, A9, n9, c9, ok9, rfl, hg9, hb9⟩
          have hk9 := (hb9.block _ (Array.getElem?_eq_some_iff.1 HK8.out).1).trans HK8.out
          have hby : Below w9.heap.size w9 (w9.alloc (.cells #[.int .i64 op9, .string nm9, .int .i64 0, .slice none 0 0, .slice A9 n9 c9] 42)) := (Below.refl _ _).alloc (Nat.le_refl _) _
          have HSTa := Lib.hid ((HST8.out.step hb9).step hby)
          have hka := (hby.block _ (Array.getElem?_eq_some_iff.1 hk9).1).trans hk9
          have hkb := World.alloc_heap_new w9 (.cells #[.int .i64 op9, .string nm9, .int .i64 0, .slice none 0 0, .slice A9 n9 c9] 42)
          have HB9 := Lib.hid hb9
          have HBY := Lib.hid (fun (d : Nat) (l : List Tr) (A : Option Addr) (h : C (rdTr d) Any w9 A l) => h.below hby)
          have HGB := Lib.hid hg9
          have HKa := Lib.hid (And.intro hka hkb)
          clear hb9 hg9 hby hk9 hka hkb z0 z1 z2 z3 z4 z5 z6 HG2 HST8
          go_upto_region 9 with fail
          generalize hwa : w9.alloc (.cells #[.int .i64 op9, .string nm9, .int .i64 0, .slice none 0 0, .slice A9 n9 c9] 42) = wa at *
          clear hwa
          generalize w9.heap.size = g9 at *
          obtain ⟨ho7, l7, hl7, hC7, hm7⟩ := HGA.out
          obtain ⟨ho9, l9, hl9, hC9, hm9⟩ := HGB.out
          have hsame : op7 = op9 ∧ nm7 = nm9 ∧ l7 = l9 ∧ ok7 = ok9 := by
            refine ⟨?_, ?_, ?_, ho7.trans ho9.symm⟩
            · cases D with
              | none => exact hm7.1.trans hm9.1.symm
              | some x => exact hm7.1.trans hm9.1.symm
            · cases D with
              | none => exact hm7.2.1.trans hm9.2.1.symm
              | some x => have := hm7.2.symm.trans hm9.2; injection this
            · cases D with
              | none => exact hm7.2.2.trans hm9.2.2.symm
              | some x => have := hm7.2.symm.trans hm9.2; injection this
          obtain ⟨rfl, rfl, rfl, rfl⟩ := hsame
          subst hl7
          subst hl9
          have HSm := Lib.hid (same_core (eqtr_calls _) op7 nm7 A7 A9 c7 c9 l7 wa (HBY.out _ _ _ ((HBX.out _ _ _ hC7).below HB9.out)) (HBY.out _ _ _ hC9))
          obtain ⟨y0, y1, y2, y3, y4⟩ := cells5 HKa.out.1
          obtain ⟨x0, x1, x2, x3, x4⟩ := cells5 HKa.out.2
          have n2 : (ey == ey) = true := beq_self_eq_true _
          have n3 : (ok7 == ok7) = true := beq_self_eq_true _
          clear ho7 hC7 hm7 ho9 hC9 hm9 HGA HGB HKa HBX HB9 HBY HK8
          go_wp2_with fail
          refine HSm.out.mono ?_
          rintro e wb ⟨rfl, hbb⟩
          have HSTb := Lib.hid (HSTa.out.step hbb)
          clear hbb HSTa
          go_wp2_with fail
          refine (HAW.out _).mono ?_
          rintro e wz ⟨rfl, hbz⟩
          have HSTz := Lib.hid (HSTb.out.step hbz)
          clear hbz
          go_wp2
          go_ret
          exact ⟨rfl, HSTz.out.below⟩
end Go.Proofs.YthfomoigaoffgaaGreat.Rn
