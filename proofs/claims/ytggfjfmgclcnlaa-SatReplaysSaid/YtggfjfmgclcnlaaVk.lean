/- Walks: Equal of clauses; awake, which all laws of the chapter ask. -/
import Derived.Test.YtggfjfmgclcnlaaVj
namespace Go.Proofs.Ytggfjfmgclcnlaa.G
open Go Go.RowKit Go.Proofs.Ytggfjfmgclcnlaa.K
/-! ### a row of elements that is laid out in one block -/
def AllK {α : Type} (d : Rd α) (S : Nat → Prop) (w : World) : List α → List (List Value) → Prop
  | [], [] => True
  | x :: xs, c :: cs => d.K S w x c ∧ AllK d S w xs cs
  | _, _ => False
theorem flat_at {α : Type} {d : Rd α} {S : Nat → Prop} {w : World} : ∀ {xs : List α} {css : List (List Value)}, AllK d S w xs css → ∀ j x, xs[j]? = some x → ∃ cs, d.K S w x cs ∧ ∀ i u, cs[i]? = some u → css.flatten[j * d.sz + i]? = some u
  | [], _, _ => fun j x hj => by simp at hj
  | _ :: _, [], h => h.elim
  | x0 :: xs, c0 :: css, ⟨h0, hr⟩ => fun j x hj => by
    have hl := d.len h0
    cases j with
    | zero =>
      cases hj
      exact ⟨c0, h0, fun i u hu => by
        rw [List.flatten_cons, Nat.zero_mul, Nat.zero_add, List.getElem?_append_left (List.getElem?_eq_some_iff.1 hu).1]
        exact hu⟩
    | succ j =>
      obtain ⟨cs, hk, hc⟩ := flat_at hr j x (by simpa using hj)
      exact ⟨cs, hk, fun i u hu => by
        rw [List.flatten_cons, List.getElem?_append_right (by rw [hl, Nat.add_mul]; omega), hl, show (j + 1) * d.sz + i - d.sz = j * d.sz + i by rw [Nat.add_mul]; omega]
        exact hc i u hu⟩
theorem C.lit {α : Type} {d : Rd α} {S : Nat → Prop} {w : World} {b : Nat} {ty : TypeId} {fz : Nat × Nat} {xs : List α} (css : List (List Value)) (h : AllK d S w xs css) (hb : w.heap[b]? = some (.cells css.flatten.toArray ty fz)) (hS : S b) (hl : xs.length ≤ maxLen) : C d S w (some ⟨b, 0, none⟩) xs :=
  ⟨hl, fun _ => ⟨b, 0, rfl, hS, (Array.getElem?_eq_some_iff.1 hb).1, fun j x hj => by
    obtain ⟨cs, hk, hc⟩ := flat_at h j x hj
    exact ⟨cs, hk, fun i u hu => by
      have := hc i u hu
      simp [World.cell?, hb, this]⟩⟩⟩
end Go.Proofs.Ytggfjfmgclcnlaa.G
namespace Go.Proofs.Ytggfjfmgclcnlaa.Zb
open Go Go.RowKit Go.Shelf Go.Proofs.Ytggfjfmgclcnlaa.K Go.Proofs.Ytggfjfmgclcnlaa.G Go.Proofs.Ytggfjfmgclcnlaa.Z
set_option linter.unusedSimpArgs false
set_option linter.unusedVariables false

theorem drop_eq_step {a b : List Int} {i : Nat} (h1 : i < a.length) (h2 : i < b.length) : decide (a.drop i = b.drop i) = (decide (a[i]'h1 = b[i]'h2) && decide (a.drop (i + 1) = b.drop (i + 1))) := by
  rw [List.drop_eq_getElem_cons h1, List.drop_eq_getElem_cons h2]
  generalize a[i]'h1 = x
  generalize b[i]'h2 = y
  generalize a.drop (i + 1) = p
  generalize b.drop (i + 1) = q
  by_cases e : x = y
  · simp [e]
  · simp [e]
set_option maxRecDepth 100000 in
set_option maxHeartbeats 2000000 in
theorem equal_calls {S S' : Nat → Prop} {A B : Option Addr} {ca cb : Nat} {a b : List Int} {w : World} (ha : C kI S w A a) (hb : C kI S' w B b) :
    Calls Try.prog 28 #[.slice A a.length ca, .slice B b.length cb] w fun e w' => e = .returned (.bool (decide (a = b))) ∧ ∃ k, w' = w.drewN k := by
  have hla : a.length ≤ 9223372036854775807 := by have := ha.len; unfold maxLen at this; omega
  have hlb : b.length ≤ 9223372036854775807 := by have := hb.len; unfold maxLen at this; omega
  have HA := Lib.hid ha
  have HB := Lib.hid hb
  clear ha hb
  by_cases hne : a.length = b.length
  · have heq : ((a.length : Int) != (b.length : Int)) = false := by rw [hne]; simp
    have HNe := Lib.hid hne
    have HR : Hid (decide (a.drop 0 = b.drop 0) = decide (a = b)) := Lib.hid (by rw [List.drop_zero, List.drop_zero])
    generalize decide (a = b) = R at HR ⊢
    have hn2 : b.length = a.length := hne.symm
    clear hne
    generalize hbl : b.length = bl at *
    have HBl := Lib.hid hbl
    subst hn2
    clear hbl
    go_enter Try.func28, Try.ntmps28
    go_wp2_with fail
    go_loopg [13] a.length (fun gg v13 wr => ∃ i : Nat, v13 = .int .i64 i ∧ i ≤ a.length ∧ a.length - i ≤ gg ∧ Hid (decide (a.drop i = b.drop i) = R) ∧ Hid (∃ k, wr = w.drewN k))
    case atStart => exact ⟨0, rfl, by omega, by omega, HR, Lib.hid ⟨0, rfl⟩⟩
    case round =>
      clear HR
      obtain ⟨i, rfl, hi, hg, HR, HD⟩ := hrel
      by_cases hlt : i < a.length
      · have hltz : (i : Int) < (a.length : Int) := by omega
        have hi0 : (0 : Int) ≤ (i : Int) := by omega
        have Hlt := Lib.hid hlt
        obtain ⟨k, rfl⟩ := HD.out
        obtain ⟨b1, o1, rfl, hb1, q1⟩ := int_at HA.out i hlt
        obtain ⟨b2, o2, rfl, hb2, q2⟩ := int_at HB.out i (by rw [HBl.out]; exact hlt)
        have hr := HR.out
        rw [drop_eq_step hlt (by rw [HBl.out]; exact hlt)] at hr
        have p1 : (w.drewN k).cell? ⟨b1, o1 + i, none⟩ = some (.int .i64 (a[i]'hlt)) := q1
        have p2 : (w.drewN k).cell? ⟨b2, o2 + i, none⟩ = some (.int .i64 (b[i]'(by rw [HBl.out]; exact hlt))) := q2
        generalize a[i]'hlt = x at *
        generalize b[i]'(by rw [HBl.out]; exact hlt) = y at *
        clear q1 q2 HD HR hlt
        generalize hw : w.drewN k = wr at *
        have HW : Hid (∃ k, wr = w.drewN k) := Lib.hid ⟨k, hw.symm⟩
        clear hw
        by_cases he : x = y
        · have g : (x != y) = false := by rw [he]; simp
          have HR : Hid (decide (a.drop (i + 1) = b.drop (i + 1)) = R) := Lib.hid (by rw [decide_eq_true he, Bool.true_and] at hr; exact hr)
          clear hr
          subst he
          go_upto_region 6 with fail
          go_quiet (fail)
          go_wp2
          go_roundg (a.length - (i + 1))
          case measure => have := Hlt.out; omega
          case rel => exact ⟨i + 1, by go_num, Hlt.out, Nat.le_refl _, HR, Lib.hid (drewN_more HW.out _)⟩
        · have g : (x != y) = true := bne_iff_ne.2 he
          have HR : Hid (false = R) := Lib.hid (by rw [decide_eq_false he, Bool.false_and] at hr; exact hr)
          clear hr he
          go_upto_region 6 with fail
          go_quiet (fail)
          go_wp2
          go_ret
          exact ⟨by rw [← HR.out]; rfl, drewN_more HW.out _⟩
      · have hltz : ¬ (i : Int) < (a.length : Int) := by omega
        have hr := HR.out
        rw [List.drop_eq_nil_of_le (by omega), List.drop_eq_nil_of_le (by rw [HBl.out]; omega)] at hr
        have HR : Hid (true = R) := Lib.hid hr
        clear hr
        go_wp2
        go_ret
        exact ⟨by rw [← HR.out]; rfl, HD.out⟩
  · have heq : ((a.length : Int) != (b.length : Int)) = true := bne_iff_ne.2 (by omega)
    have hf : decide (a = b) = false := decide_eq_false (fun e => hne (by rw [e]))
    rw [hf]
    clear hne hf
    go_enter Try.func28, Try.ntmps28
    go_wp2
    go_ret
    exact ⟨rfl, 0, rfl⟩
def lA : List Cls := [[1], [-1, 2], [-2]]
def pA : List Stp := [(0, 1, 1), (3, 2, 2)]
theorem replA : replB lA pA = ([[2], []], 0, 0) := by decide +kernel
theorem solvA : (solveB lA 10).err = 0 ∧ (solveB lA 10).holds = false := by decide +kernel
theorem solvA2 : solveB (lA.take 2) 10 = ⟨true, [false, true, true], [], 0⟩ := by
  have : (solveB (lA.take 2) 10).holds = true ∧ (solveB (lA.take 2) 10).values = [false, true, true] ∧ (solveB (lA.take 2) 10).proof = [] ∧ (solveB (lA.take 2) 10).err = 0 := by decide +kernel
  obtain ⟨h1, h2, h3, h4⟩ := this
  generalize solveB (lA.take 2) 10 = R at *
  obtain ⟨a, b, c, d⟩ := R
  simp only at h1 h2 h3 h4
  subst h1; subst h2; subst h3; subst h4
  rfl
theorem bool_at {S : Nat → Prop} {w : World} {A : Option Addr} {l : List Bool} (h : C G.bool S w A l) (j : Nat) (hj : j < l.length) : ∃ b o, A = some ⟨b, o, none⟩ ∧ b < w.heap.size ∧ w.cell? ⟨b, o + j, none⟩ = some (.bool (l[j]'hj)) := by
  obtain ⟨b, o, cs, e, _, hb, hK, hc⟩ := h.at_ j hj
  have hK' : cs = [.bool (l[j]'hj)] := hK
  subst hK'
  have := hc 0 _ rfl
  rw [show G.bool.sz = 1 from rfl, Nat.mul_one, Nat.add_zero] at this
  exact ⟨b, o, e, hb, this⟩
def awW (w : World) : World := ((((w.alloc (.cells #[.int .i64 1] 3)).alloc (.cells #[.int .i64 (-1), .int .i64 2] 3)).alloc (.cells #[.int .i64 (-2)] 3)).alloc (.cells #[.slice (some ⟨w.heap.size, 0, none⟩) 1 1, .slice (some ⟨w.heap.size + 1, 0, none⟩) 2 2, .slice (some ⟨w.heap.size + 1 + 1, 0, none⟩) 1 1] 56)).alloc (.cells #[.int .i64 0, .int .i64 1, .int .i64 1, .int .i64 3, .int .i64 2, .int .i64 2] 55)
theorem aw_facts (w : World) : C kL Any (awW w) (some ⟨w.heap.size + 1 + 1 + 1, 0, none⟩) lA ∧ C kS Any (awW w) (some ⟨w.heap.size + 1 + 1 + 1 + 1, 0, none⟩) pA ∧ Below w.heap.size w (awW w) := by
  obtain ⟨w1, h1⟩ : ∃ w1, w.alloc (.cells #[.int .i64 1] 3) = w1 := ⟨_, rfl⟩
  obtain ⟨w2, h2⟩ : ∃ w2, w1.alloc (.cells #[.int .i64 (-1), .int .i64 2] 3) = w2 := ⟨_, rfl⟩
  obtain ⟨w3, h3⟩ : ∃ w3, w2.alloc (.cells #[.int .i64 (-2)] 3) = w3 := ⟨_, rfl⟩
  obtain ⟨w4, h4⟩ : ∃ w4, w3.alloc (.cells #[.slice (some ⟨w.heap.size, 0, none⟩) 1 1, .slice (some ⟨w.heap.size + 1, 0, none⟩) 2 2, .slice (some ⟨w.heap.size + 1 + 1, 0, none⟩) 1 1] 56) = w4 := ⟨_, rfl⟩
  obtain ⟨w5, h5⟩ : ∃ w5, w4.alloc (.cells #[.int .i64 0, .int .i64 1, .int .i64 1, .int .i64 3, .int .i64 2, .int .i64 2] 55) = w5 := ⟨_, rfl⟩
  have e5 : awW w = w5 := by unfold awW; rw [h1, h2, h3, h4, h5]
  have s1 : w1.heap.size = w.heap.size + 1 := by rw [← h1]; simp
  have s2 : w2.heap.size = w.heap.size + 1 + 1 := by rw [← h2, World.size_alloc, s1]
  have s3 : w3.heap.size = w.heap.size + 1 + 1 + 1 := by rw [← h3, World.size_alloc, s2]
  have s4 : w4.heap.size = w.heap.size + 1 + 1 + 1 + 1 := by rw [← h4, World.size_alloc, s3]
  have b1 : Below w.heap.size w w1 := by rw [← h1]; exact (Below.refl _ _).alloc (Nat.le_refl _) _
  have b2 : Below w1.heap.size w1 w2 := by rw [← h2]; exact (Below.refl _ _).alloc (Nat.le_refl _) _
  have b3 : Below w2.heap.size w2 w3 := by rw [← h3]; exact (Below.refl _ _).alloc (Nat.le_refl _) _
  have b4 : Below w3.heap.size w3 w4 := by rw [← h4]; exact (Below.refl _ _).alloc (Nat.le_refl _) _
  have b5 : Below w4.heap.size w4 w5 := by rw [← h5]; exact (Below.refl _ _).alloc (Nat.le_refl _) _
  have c1 : C kI Any w1 (some ⟨w.heap.size, 0, none⟩) [1] := by rw [← h1]; exact C.lit [[.int .i64 1]] ⟨rfl, trivial⟩ (World.alloc_heap_new w _) trivial (by decide)
  have c2 : C kI Any w2 (some ⟨w.heap.size + 1, 0, none⟩) [-1, 2] := by rw [← h2, ← s1]; exact C.lit [[.int .i64 (-1)], [.int .i64 2]] ⟨rfl, rfl, trivial⟩ (World.alloc_heap_new w1 _) trivial (by decide)
  have c3 : C kI Any w3 (some ⟨w.heap.size + 1 + 1, 0, none⟩) [-2] := by rw [← h3, ← s2]; exact C.lit [[.int .i64 (-2)]] ⟨rfl, trivial⟩ (World.alloc_heap_new w2 _) trivial (by decide)
  have d1 := ((c1.below b2).below b3).below b4
  have d2 := (c2.below b3).below b4
  have d3 := c3.below b4
  have c4 : C kL Any w4 (some ⟨w.heap.size + 1 + 1 + 1, 0, none⟩) lA := by
    have hh : w4.heap[w.heap.size + 1 + 1 + 1]? = some (.cells #[.slice (some ⟨w.heap.size, 0, none⟩) 1 1, .slice (some ⟨w.heap.size + 1, 0, none⟩) 2 2, .slice (some ⟨w.heap.size + 1 + 1, 0, none⟩) 1 1] 56 (0, 0)) := by rw [← h4, ← s3]; exact World.alloc_heap_new w3 _
    exact C.lit [[.slice (some ⟨w.heap.size, 0, none⟩) 1 1], [.slice (some ⟨w.heap.size + 1, 0, none⟩) 2 2], [.slice (some ⟨w.heap.size + 1 + 1, 0, none⟩) 1 1]] ⟨⟨_, 1, rfl, Nat.le_refl _, d1⟩, ⟨_, 2, rfl, Nat.le_refl _, d2⟩, ⟨_, 1, rfl, Nat.le_refl _, d3⟩, trivial⟩ hh trivial (by decide)
  have c5 : C kS Any w5 (some ⟨w.heap.size + 1 + 1 + 1 + 1, 0, none⟩) pA := by
    have hh : w5.heap[w.heap.size + 1 + 1 + 1 + 1]? = some (.cells #[.int .i64 0, .int .i64 1, .int .i64 1, .int .i64 3, .int .i64 2, .int .i64 2] 55 (0, 0)) := by rw [← h5, ← s4]; exact World.alloc_heap_new w4 _
    exact C.lit [[.int .i64 0, .int .i64 1, .int .i64 1], [.int .i64 3, .int .i64 2, .int .i64 2]] ⟨kS_mk _ _ _, kS_mk _ _ _, trivial⟩ hh trivial (by decide)
  rw [e5]
  refine ⟨c4.below b5, c5, ?_⟩
  exact (((b1.trans (b2.mono (by omega))).trans (b3.mono (by omega))).trans (b4.mono (by omega))).trans (b5.mono (by omega))
set_option maxRecDepth 100000 in
set_option maxHeartbeats 4000000 in
theorem awake_calls (w : World) : Calls Try.prog 10 #[] w fun e w' => e = .returned (.bool true) ∧ Below w.heap.size w w' := by
  obtain ⟨fl, fp, fb⟩ := aw_facts w
  have HRp := Lib.hid (replay_calls Any Any _ _ 3 2 lA pA (awW w) fl (by decide) fp (by decide) (by decide) (by decide) (by decide))
  rw [replA] at HRp
  have HFl := Lib.hid fl
  have HFb := Lib.hid fb
  clear fl fp fb
  go_enter Try.func10, Try.ntmps10
  go_wp2_with fail
  refine HRp.out.mono ?_
  rintro e w1 ⟨A1, c1, rfl, hc1, hC1, hb1⟩
  obtain ⟨bm, om, Am, cm, rfl, hbm, m0, hm0, hCm⟩ := cls_at hC1 0 (by decide)
  obtain ⟨bm2, om2, Am2, cm2, e9, hbm2, m1, hm1, hCm2⟩ := cls_at hC1 1 (by decide)
  injection e9 with e9
  injection e9 with e8 e7 _
  subst e8; subst e7
  have HS1 := Lib.hid (solve_calls Any (some ⟨w.heap.size + 1 + 1 + 1, 0, none⟩) 3 lA 10 w1 (HFl.out.below hb1) (by decide) (by decide) (by decide))
  have HB1 := Lib.hid (HFb.out.trans (hb1.mono HFb.out.size))
  have HL1 := Lib.hid (HFl.out.below hb1)
  have HM : Hid (∀ W, Below w1.heap.size w1 W → W.cell? ⟨bm, om, none⟩ = some (.slice Am 1 cm) ∧ W.cell? ⟨bm, om + 1, none⟩ = some (.slice Am2 0 cm2) ∧ C kI Any W Am [2]) := Lib.hid (fun W hb => ⟨(hb.cell (p := ⟨bm, om, none⟩) hbm).trans m0, (hb.cell (p := ⟨bm, om + 1, none⟩) hbm).trans m1, hCm.below hb⟩)
  have HS2 : Hid (∀ W, Below w1.heap.size w1 W → Calls Try.prog 11 #[.slice (some ⟨w.heap.size + 1 + 1 + 1, 0, none⟩) 2 3, .int .i64 10] W (SvEnd W ⟨true, [false, true, true], [], 0⟩)) := Lib.hid (fun W hb => by
    have := solve_calls Any (some ⟨w.heap.size + 1 + 1 + 1, 0, none⟩) 3 (lA.take 2) 10 W ((HL1.out.below hb).take 2) (by decide) (by decide) (by decide)
    rw [solvA2] at this
    exact this)
  have hbm1 := hbm
  clear hb1 HRp HFb HFl hC1 hc1 hm0 hm1 hCm hCm2 hbm hbm2 m0 m1
  obtain ⟨sa1, sa2⟩ := solvA
  generalize solveB lA 10 = RA at HS1 sa1 sa2
  obtain ⟨ra, rb, rc, rd⟩ := RA
  dsimp only at sa1 sa2
  subst sa1; subst sa2
  go_wp2_with fail
  refine HS1.out.mono ?_
  rintro e w2 ⟨Av, cv, Ap, cp, rfl, _, _, _, _, hb2⟩
  dsimp only
  generalize rb.length = nb
  generalize rc.length = nc
  have HB2 := Lib.hid (HB1.out.trans (hb2.mono HB1.out.size))
  have hq2 : Below w1.heap.size w1 (w2.alloc (.cells #[.bool false, .slice Av nb cv, .slice Ap nc cp] 31)) := hb2.alloc hb2.size _
  have f0 := cells_at w2 #[.bool false, .slice Av nb cv, .slice Ap nc cp] 31 _ 0 rfl
  have HQ2 := Lib.hid hq2
  have HF2 := Lib.hid f0
  have hl2 : w2.heap.size < (w2.alloc (.cells #[.bool false, .slice Av nb cv, .slice Ap nc cp] 31)).heap.size := by simp
  have HN2 := Lib.hid hl2
  clear hb2 hq2 f0 HS1 hl2
  go_wp2_with fail
  refine (HS2.out _ HQ2.out).mono ?_
  rintro e w3 ⟨Av2, cv2, Ap2, cp2, rfl, hcv, hCv, _, _, hb3⟩
  dsimp only at hcv hCv ⊢
  have hq3 := HQ2.out.trans (hb3.mono HQ2.out.size)
  have hf3 := (hb3.cell (p := ⟨w2.heap.size, 0, none⟩) HN2.out).trans HF2.out
  have hn3 := Nat.lt_of_lt_of_le HN2.out hb3.size
  obtain ⟨bv, ov, rfl, hbv, v1⟩ := bool_at hCv 1 (by decide)
  obtain ⟨bv2, ov2, e9, _, v2⟩ := bool_at hCv 2 (by decide)
  injection e9 with e9
  injection e9 with e8 e7 _
  subst e8; subst e7
  have HFin : Hid (∀ W, Below w3.heap.size w3 W → W.cell? ⟨w2.heap.size, 0, none⟩ = some (.bool false) ∧ W.cell? ⟨bv, ov + 1, none⟩ = some (.bool true) ∧ W.cell? ⟨bv, ov + 2, none⟩ = some (.bool true) ∧ W.cell? ⟨bm, om, none⟩ = some (.slice Am 1 cm) ∧ W.cell? ⟨bm, om + 1, none⟩ = some (.slice Am2 0 cm2) ∧ C kI Any W Am [2] ∧ Below w.heap.size w W) := Lib.hid (fun W hb => by
    obtain ⟨m0, m1, m2⟩ := HM.out W (hq3.trans (hb.mono hq3.size))
    exact ⟨(hb.cell (p := ⟨w2.heap.size, 0, none⟩) hn3).trans hf3, (hb.cell (p := ⟨bv, ov + 1, none⟩) hbv).trans v1, (hb.cell (p := ⟨bv, ov + 2, none⟩) hbv).trans v2, m0, m1, m2, HB1.out.trans ((hq3.trans (hb.mono hq3.size)).mono HB1.out.size)⟩)
  have hb4 : Below w3.heap.size w3 (w3.alloc (.cells #[.bool true, .slice (some ⟨bv, ov, none⟩) 3 cv2, .slice Ap2 0 cp2] 31)) := (Below.refl _ _).alloc (Nat.le_refl _) _
  have g0 := cells_at w3 #[.bool true, .slice (some ⟨bv, ov, none⟩) 3 cv2, .slice Ap2 0 cp2] 31 _ 0 rfl
  have g1 := cells_at w3 #[.bool true, .slice (some ⟨bv, ov, none⟩) 3 cv2, .slice Ap2 0 cp2] 31 _ 1 rfl
  have hn4 : w3.heap.size < (w3.alloc (.cells #[.bool true, .slice (some ⟨bv, ov, none⟩) 3 cv2, .slice Ap2 0 cp2] 31)).heap.size := by simp
  have HG : Hid (∀ W, Below (w3.alloc (.cells #[.bool true, .slice (some ⟨bv, ov, none⟩) 3 cv2, .slice Ap2 0 cp2] 31)).heap.size (w3.alloc (.cells #[.bool true, .slice (some ⟨bv, ov, none⟩) 3 cv2, .slice Ap2 0 cp2] 31)) W → W.cell? ⟨w3.heap.size, 0, none⟩ = some (.bool true) ∧ W.cell? ⟨w3.heap.size, 1, none⟩ = some (.slice (some ⟨bv, ov, none⟩) 3 cv2)) := Lib.hid (fun W hb => ⟨(hb.cell (p := ⟨w3.heap.size, 0, none⟩) hn4).trans g0, (hb.cell (p := ⟨w3.heap.size, 1, none⟩) hn4).trans g1⟩)
  obtain ⟨x0, x1, x2, x3, x4, x5, x6⟩ := HFin.out _ hb4
  have HX5 := Lib.hid x5
  have HB4 := Lib.hid hb4
  clear hb3 hq3 hf3 hn3 hCv hcv hbv v1 v2 HM HQ2 HF2 HN2 HB2 HB1 HL1 HS2 hb4 hn4 x5 x6 hbm1
  go_wp2_with fail
  clear x0 x1 x2 x3 x4 g0 g1
  generalize hw4 : w3.alloc (.cells #[.bool true, .slice (some ⟨bv, ov, none⟩) 3 cv2, .slice Ap2 0 cp2] 31) = w4 at HG HB4 HX5 ⊢
  have hs4 : w3.heap.size + 1 = w4.heap.size := by rw [← hw4]; simp
  have h2 : C kI Any (w4.alloc (.cells #[.int .i64 2] 3)) (some ⟨w3.heap.size + 1, 0, none⟩) [2] := by rw [hs4]; exact C.lit [[.int .i64 2]] ⟨rfl, trivial⟩ (World.alloc_heap_new w4 _) trivial (by decide)
  have HEq := Lib.hid (equal_calls (ca := cm) (cb := 1) (HX5.out.below ((Below.refl _ _).alloc (Nat.le_refl _) _)) h2)
  rw [show decide (([2] : List Int) = [2]) = true from rfl] at HEq
  have HB5 : Hid (Below w4.heap.size w4 (w4.alloc (.cells #[.int .i64 2] 3))) := Lib.hid ((Below.refl _ _).alloc (Nat.le_refl _) _)
  clear h2 hw4 hs4 HX5
  refine HEq.out.mono ?_
  rintro e w5 ⟨rfl, k, rfl⟩
  have hb6 : Below w4.heap.size w4 ((w4.alloc (.cells #[.int .i64 2] 3)).drewN k) := below_drewN HB5.out k
  obtain ⟨y0, y1⟩ := HG.out _ hb6
  obtain ⟨x0, x1, x2, _, _, _, x6⟩ := HFin.out _ (HB4.out.trans (hb6.mono HB4.out.size))
  have HEnd := Lib.hid x6
  generalize (w4.alloc (.cells #[.int .i64 2] 3)).drewN k = w6 at *
  clear hb6 x6 HEq HB5 HG HFin HB4
  go_wp2
  go_ret
  exact ⟨rfl, HEnd.out⟩
end Go.Proofs.Ytggfjfmgclcnlaa.Zb
