/- The law SatSolves: its walk, and why it holds. -/
import Derived.Test.YtggfjfmgclcnlaaVos
import Derived.Deep.RegionHeld3
namespace Go.Proofs.Ytggfjfmgclcnlaa.Zb
open Go Go.RowKit Go.Shelf Go.Proofs.Ytggfjfmgclcnlaa.K Go.Proofs.Ytggfjfmgclcnlaa.G Go.Proofs.Ytggfjfmgclcnlaa.Z
set_option linter.unusedSimpArgs false
set_option linter.unusedVariables false

theorem solves_err {l : List Cls} {fuel : Int} (hck : checkL l ≠ 0) : solveB l fuel = ⟨false, [], [], checkL l⟩ := by
  unfold solveB
  rw [if_pos hck]
theorem solves_range {l : List Cls} {fuel : Int} (hck : checkL l = 0) (hf : fuel < 0 ∨ 100000 < fuel) : (solveB l fuel).err = 4 := by
  unfold solveB
  rw [if_neg (fun e => e hck), if_pos hf]
theorem solves_law {l : List Cls} {fuel : Int} (hck : checkL l = 0) (hf0 : 0 ≤ fuel) (hf1 : fuel ≤ 100000) :
    ((solveB l fuel).err = 0 ∨ (solveB l fuel).err = 7 ∨ (solveB l fuel).err = 8) ∧ ((solveB l fuel).err = 8 → fuel < ((2 ^ mostB l : Nat) : Int)) ∧
    ((solveB l fuel).err = 0 → (solveB l fuel).holds = true → canB (mostB l) l = true ∧ (solveB l fuel).proof = [] ∧ ((mostB l = 0 ∧ (solveB l fuel).values = []) ∨ ((solveB l fuel).values.length = mostB l + 1 ∧ (solveB l fuel).values[0]? = some false)) ∧ holdL (solveB l fuel).values l = true) ∧
    ((solveB l fuel).err = 0 → (solveB l fuel).holds = false → canB (mostB l) l = false ∧ (solveB l fuel).values = [] ∧ (solveB l fuel).proof.length ≤ 20000 ∧ (∀ s ∈ (solveB l fuel).proof, -9223372036854775808 ≤ s.2.2 ∧ s.2.2 ≤ 9223372036854775807) ∧ ∃ made, replB l (solveB l fuel).proof = (made, 0, 0) ∧ made.length ≤ 20000 ∧ (∀ c, made.getLast? = some c → c = []) ∧ (made = [] → l.any emptyC = true)) := by
  obtain ⟨h1, h2, h3, h4⟩ := solve_law hck hf0 hf1
  refine ⟨h1, h2, fun e1 e2 => ?_, fun e1 e2 => ?_⟩
  · obtain ⟨a1, a2, a3, a4⟩ := h3 e1 e2
    exact ⟨a4, a1, a2, a3⟩
  · obtain ⟨b1, b2, b3, p, made, c1, c2, c3, c4, c5, c6, c7⟩ := h4 e1 e2
    obtain ⟨_, _, _, _, _, t4, _⟩ := trim_law c2
    rw [c1] at c3 c4 c5 ⊢
    refine ⟨b3, b1, c4, repl_atoms c3 (checkL_ok hck).2, made, ?_, by omega, c6, fun e => ?_⟩
    · rw [replB_ok hck c4 c3, List.drop_left]
    · obtain ⟨c, hc, rfl⟩ := c7 e
      exact List.any_eq_true.2 ⟨[], hc, rfl⟩
set_option maxRecDepth 100000 in
set_option maxHeartbeats 8000000 in
theorem solves_calls (S1 : Nat → Prop) (A1 : Option Addr) (c1 : Nat) (l : List Cls) (fuel : Int) (w : World) (hl : C kL S1 w A1 l) (hc1 : l.length ≤ c1) :
    Calls Try.prog 3 #[.slice A1 l.length c1, .int .i64 fuel] w fun e w' => e = .returned (.bool true) ∧ Below w.heap.size w w' := by
  have HS1 : Hid (Calls Try.prog 7 #[.slice A1 l.length c1, .slice none 0 0, .int .i64 100] w fun e w' => e = .returned (.bool (smallB l 0 100)) ∧ Below w.heap.size w w') := Lib.hid (small_calls hl hc1 none 0 0 (by decide) 100 (by decide))
  have HAw := Lib.hid (fun W => awake_calls W)
  cases hs1 : smallB l 0 100 with
  | false =>
    rw [hs1] at HS1
    clear hl hs1
    go_enter Try.func3, Try.ntmps3
    go_wp2_with fail
    refine HS1.out.mono ?_
    rintro e w1 ⟨rfl, hb1⟩
    have HB1 := Lib.hid hb1
    clear hb1 HS1
    go_wp2_with fail
    refine (HAw.out _).mono ?_
    rintro e w2 ⟨rfl, hb2⟩
    have HB2 := Lib.hid (HB1.out.trans (hb2.mono HB1.out.size))
    clear hb2
    go_wp2
    go_ret
    exact ⟨rfl, HB2.out⟩
  | true =>
    obtain ⟨hl60, hl70⟩ := small_lens hs1
    rw [hs1] at HS1
    have HCl := Lib.hid (fun W (hb : Below w.heap.size w W) => clauses_calls (hl.below hb) hc1 (by omega))
    have HGr := Lib.hid (fun W (hb : Below w.heap.size w W) => rgrt_calls (hl.below hb) hc1 (by omega) (fun c hc => Nat.le_trans (hl70 c hc) (by decide)))
    have HCk := Lib.hid (fun W (hb : Below w.heap.size w W) => rcheck_calls (hl.below hb) hc1 (by omega) (fun c hc => Nat.le_trans (hl70 c hc) (by decide)))
    have HL := Lib.hid hl
    have H70 : Hid (∀ c ∈ l, c.length ≤ 1000000000) := Lib.hid (fun c hc => Nat.le_trans (hl70 c hc) (by decide))
    have HSo := Lib.hid (fun W A c (h : C kL Any W A l) (hc : l.length ≤ c) => solve_calls Any A c l fuel W h hc (by omega) H70.out)
    clear hs1 hl70 hl
    by_cases hck : checkL l = 0
    · rw [hck] at HCk
      rw [grt_most (checkL_ok hck).2] at HGr
      have Hck := Lib.hid hck
      have HRg := Lib.hid (solves_range (fuel := fuel) hck)
      have HLw := Lib.hid (solves_law (fuel := fuel) hck)
      have HCan := Lib.hid (fun W (hb : Below w.heap.size w W) (hm : mostB l ≤ 12) => can_calls (HL.out.below hb) hc1 (checkL_ok hck).2 hm (by omega))
      obtain ⟨n, hn⟩ : ∃ n, mostB l = n := ⟨_, rfl⟩
      rw [hn] at HGr HLw HCan
      generalize canB n l = can at HCan HLw
      clear hck hn
      by_cases e1 : 12 < n
      · have d1 : (12 : Int) < (n : Int) := by omega
        clear HLw HRg HCan
        go_enter Try.func3, Try.ntmps3
        go_wp2_with fail
        refine HS1.out.mono ?_
        rintro e w1 ⟨rfl, hb1⟩
        have HB1 := Lib.hid hb1
        clear hb1 HS1
        go_wp2_with fail
        refine (HCk.out _ HB1.out).mono ?_
        rintro e w2 ⟨rfl, hb2⟩
        have HB2 := Lib.hid (HB1.out.trans (hb2.mono HB1.out.size))
        clear hb2
        go_wp2_with fail
        refine (HGr.out _ HB2.out).mono ?_
        rintro e w3 ⟨rfl, hb3⟩
        have HB3 := Lib.hid (HB2.out.trans (hb3.mono HB2.out.size))
        clear hb3
        go_wp2_with fail
        refine (HAw.out _).mono ?_
        rintro e w4 ⟨rfl, hb4⟩
        have HB4 := Lib.hid (HB3.out.trans (hb4.mono HB3.out.size))
        clear hb4
        go_wp2
        go_ret
        exact ⟨rfl, HB4.out⟩
      · have d1 : ¬ (12 : Int) < (n : Int) := by omega
        have HCn := Lib.hid (fun W hb => HCan.out W hb (by omega))
        have HPw := Lib.hid (wrap_pow (n := n) (by omega))
        have hn12 : n ≤ 12 := by omega
        obtain ⟨R, hR⟩ : ∃ R, solveB l fuel = R := ⟨_, rfl⟩
        rw [hR] at HRg HLw HSo
        clear hR e1 HCan
        obtain ⟨ra, rb, rc, rd⟩ := R
        dsimp only at HRg HLw
        go_enter Try.func3, Try.ntmps3
        go_wp2_with fail
        refine HS1.out.mono ?_
        rintro e w1 ⟨rfl, hb1⟩
        have HB1 := Lib.hid hb1
        clear hb1 HS1
        go_wp2_with fail
        refine (HCk.out _ HB1.out).mono ?_
        rintro e w2 ⟨rfl, hb2⟩
        have HB2 := Lib.hid (HB1.out.trans (hb2.mono HB1.out.size))
        clear hb2
        go_wp2_with fail
        refine (HGr.out _ HB2.out).mono ?_
        rintro e w3 ⟨rfl, hb3⟩
        have HB3 := Lib.hid (HB2.out.trans (hb3.mono HB2.out.size))
        clear hb3 HB1 HB2
        go_wp2_with fail
        refine (HCl.out _ HB3.out).mono ?_
        rintro e w6 ⟨A6, c6, rfl, hx6⟩
        have HB6 := Lib.hid (HB3.out.trans (hx6.below.mono HB3.out.size))
        have HX6 := Lib.hid hx6
        clear hx6 HB3
        go_wp2_with fail
        refine (HSo.out _ _ _ (HX6.out.all.read.2.2.mono (fun _ _ => trivial)) HX6.out.all.read.2.1).mono ?_
        rintro e w7 ⟨Av, cv, Ap, cp, rfl, hcv, hCv, hcp, hCp, hb7⟩
        dsimp only at hcv hCv hcp hCp ⊢
        have hb8 := (HB6.out.trans (hb7.mono HB6.out.size))
        have HB8 := Lib.hid (hb8.alloc hb8.size (.cells #[.bool ra, .slice Av rb.length cv, .slice Ap rc.length cp] 31))
        have hbq : Below w7.heap.size w7 (w7.alloc (.cells #[.bool ra, .slice Av rb.length cv, .slice Ap rc.length cp] 31)) := (Below.refl _ _).alloc (Nat.le_refl _) _
        have q0 := cells_at w7 #[.bool ra, .slice Av rb.length cv, .slice Ap rc.length cp] 31 _ 0 rfl
        have q1 := cells_at w7 #[.bool ra, .slice Av rb.length cv, .slice Ap rc.length cp] 31 _ 1 rfl
        have q2 := cells_at w7 #[.bool ra, .slice Av rb.length cv, .slice Ap rc.length cp] 31 _ 2 rfl
        have hl8 : w7.heap.size < (w7.alloc (.cells #[.bool ra, .slice Av rb.length cv, .slice Ap rc.length cp] 31)).heap.size := by simp
        have HCp8 := Lib.hid (hCp.below hbq)
        have HCv8 := Lib.hid (hCv.below hbq)
        clear hb7 hb8 hbq hCp hCv HX6 HB6 HSo
        go_upto_region 4 with fail
        generalize w7.alloc (.cells #[.bool ra, .slice Av rb.length cv, .slice Ap rc.length cp] 31) = w8 at *
        generalize w7.heap.size = g at *
        have HQ := Lib.hid (fun W (h : Below w8.heap.size w8 W) => And.intro ((h.cell (p := ⟨g, 0, none⟩) hl8).trans q0) (And.intro ((h.cell (p := ⟨g, 1, none⟩) hl8).trans q1) ((h.cell (p := ⟨g, 2, none⟩) hl8).trans q2)))
        clear q0 q1 q2 hl8
        go_wp2_with fail
        refine (HCk.out _ HB8.out).mono ?_
        rintro e w9 ⟨rfl, hb9⟩
        have HB9 := Lib.hid (HB8.out.trans (hb9.mono HB8.out.size))
        have HS9 := Lib.hid hb9
        clear hb9
        by_cases hf : fuel < 0 ∨ 100000 < fuel
        · obtain rfl := HRg.out hf
          clear HLw HRg
          by_cases f1 : fuel < 0
          · clear hf
            go_wp2_with fail
            refine (HAw.out _).mono ?_
            rintro e w4 ⟨rfl, hb4⟩
            have HB4 := Lib.hid (HB9.out.trans (hb4.mono HB9.out.size))
            clear hb4
            go_wp2
            go_ret
            exact ⟨rfl, HB4.out⟩
          · have f2 : 100000 < fuel := by omega
            have f3 : fuel > 100000 := f2
            clear hf
            go_wp2_with fail
            refine (HAw.out _).mono ?_
            rintro e w4 ⟨rfl, hb4⟩
            have HB4 := Lib.hid (HB9.out.trans (hb4.mono HB9.out.size))
            clear hb4
            go_wp2
            go_ret
            exact ⟨rfl, HB4.out⟩
        · obtain ⟨h1, h2, h3, h4⟩ := HLw.out (by omega) (by omega)
          have f1 : ¬ fuel < 0 := by omega
          have f2 : ¬ 100000 < fuel := by omega
          clear hf HLw HRg
          rcases h1 with rfl | rfl | rfl
          · clear h2
            cases ra with
            | true =>
              obtain ⟨rfl, rfl, hv, hh⟩ := h3 rfl rfl
              clear h3 h4
              have HHo := Lib.hid (fun W (hb : Below w8.heap.size w8 W) => rhold_calls (ca := c1) (cb := cv) (HL.out.below (HB8.out.trans (hb.mono HB8.out.size))) (HCv8.out.below hb) (fun c hc => lit_small ((checkL_ok Hck.out).2 c hc)))
              rw [hh] at HHo
              clear hh
              rcases hv with ⟨rfl, rfl⟩ | ⟨hvl, hv0⟩
              · have hcv0 : 0 ≤ cv := hcv
                have hq9 := HQ.out _ HS9.out
                have q0 := hq9.1
                have HQ0 := Lib.hid (fun W (h : Below w9.heap.size w9 W) => (HQ.out W (HS9.out.trans (h.mono HS9.out.size))).1)
                clear hq9
                go_upto_region 12 with fail
                have hs0 : Below w9.heap.size w9 w9.drew := Chg.below1 w9
                go_region_held3 (fun W' => W'.cell? ⟨g, 0, none⟩ = some (.bool true)) (go_keep)
                  (first
                    | (go_at_call 14
                       (with_reducible refine (HCn.out _ ?_).mono ?_)
                       (exact HB9.out.trans (hs0.mono HB9.out.size))
                       rintro e w10 ⟨rfl, hb10⟩
                       have hs10 := hs0.trans hb10
                       clear q0
                       have q0 := HQ0.out _ hs10))
                all_goals
                  have HB10 := Lib.hid (HB9.out.trans (hs10.mono HB9.out.size))
                  have HS10 := Lib.hid (HS9.out.trans (hs10.mono HS9.out.size))
                  clear hs10 hb10 hs0 HQ0 q0 HB9 HS9
                  go_wp2_with fail
                  refine (HGr.out _ HB10.out).mono ?_
                  rintro e w11 ⟨rfl, hb11⟩
                  have HB11 := Lib.hid (HB10.out.trans (hb11.mono HB10.out.size))
                  have hs11 := HS10.out.trans (hb11.mono HS10.out.size)
                  have HS11 := Lib.hid hs11
                  obtain ⟨q0, q1, q2⟩ := HQ.out _ hs11
                  clear hb11 hs11 HB10 HS10
                  go_wp2_with fail
                  refine (HHo.out _ HS11.out).mono ?_
                  rintro e w12 ⟨rfl, k, rfl⟩
                  have HB12 : Hid (Below w.heap.size w (w11.drewN k)) := Lib.hid (below_drewN HB11.out k)
                  generalize w11.drewN k = w12 at *
                  go_wp2_with fail
                  refine (HAw.out _).mono ?_
                  rintro e w4 ⟨rfl, hb4⟩
                  have HB4 := Lib.hid (HB12.out.trans (hb4.mono HB12.out.size))
                  clear hb4
                  go_wp2
                  go_ret
                  exact ⟨rfl, HB4.out⟩
              · have hl0 : 0 < rb.length := by omega
                obtain ⟨b5, o5, rfl, hb5, q5⟩ := bool_at HCv8.out 0 hl0
                have hz : rb[0]'hl0 = false := by have := (List.getElem?_eq_some_iff.1 hv0).2; exact this
                rw [hz, Nat.add_zero] at q5
                have HQ5 : Hid (∀ W, Below w8.heap.size w8 W → W.cell? ⟨b5, o5, none⟩ = some (.bool false)) := Lib.hid (fun W h => (h.cell (p := ⟨b5, o5, none⟩) hb5).trans q5)
                clear q5 hz hl0 hv0 hb5
                generalize rb.length = m at *
                subst hvl
                have g3 : ((n : Int) + 1 == (n : Int) + 1) = true := beq_self_eq_true _
                by_cases hn : n = 0
                · subst hn
                  have hq9 := HQ.out _ HS9.out
                  have q0 := hq9.1
                  have HQ0 := Lib.hid (fun W (h : Below w9.heap.size w9 W) => (HQ.out W (HS9.out.trans (h.mono HS9.out.size))).1)
                  clear hq9
                  go_upto_region 12 with fail
                  have hs0 : Below w9.heap.size w9 w9.drew := Chg.below1 w9
                  go_region_held3 (fun W' => W'.cell? ⟨g, 0, none⟩ = some (.bool true)) (go_keep)
                    (first
                      | (go_at_call 14
                         (with_reducible refine (HCn.out _ ?_).mono ?_)
                         (exact HB9.out.trans (hs0.mono HB9.out.size))
                         rintro e w10 ⟨rfl, hb10⟩
                         have hs10 := hs0.trans hb10
                         clear q0
                         have q0 := HQ0.out _ hs10))
                  all_goals
                    have HB10 := Lib.hid (HB9.out.trans (hs10.mono HB9.out.size))
                    have HS10 := Lib.hid (HS9.out.trans (hs10.mono HS9.out.size))
                    clear hs10 hb10 hs0 HQ0 q0 HB9 HS9
                    go_wp2_with fail
                    refine (HGr.out _ HB10.out).mono ?_
                    rintro e w11 ⟨rfl, hb11⟩
                    have HB11 := Lib.hid (HB10.out.trans (hb11.mono HB10.out.size))
                    have hs11 := HS10.out.trans (hb11.mono HS10.out.size)
                    have HS11 := Lib.hid hs11
                    obtain ⟨q0, q1, q2⟩ := HQ.out _ hs11
                    clear hb11 hs11 HB10 HS10
                    have q5 := HQ5.out _ HS11.out
                    go_wp2_with fail
                    refine (HHo.out _ HS11.out).mono ?_
                    rintro e w12 ⟨rfl, k, rfl⟩
                    have HB12 : Hid (Below w.heap.size w (w11.drewN k)) := Lib.hid (below_drewN HB11.out k)
                    generalize w11.drewN k = w12 at *
                    go_wp2_with fail
                    refine (HAw.out _).mono ?_
                    rintro e w4 ⟨rfl, hb4⟩
                    have HB4 := Lib.hid (HB12.out.trans (hb4.mono HB12.out.size))
                    clear hb4
                    go_wp2
                    go_ret
                    exact ⟨rfl, HB4.out⟩
                · have g4 : ((n : Int) == 0) = false := beq_eq_false_iff_ne.2 (by omega)
                  clear hn
                  have hq9 := HQ.out _ HS9.out
                  have q0 := hq9.1
                  have HQ0 := Lib.hid (fun W (h : Below w9.heap.size w9 W) => (HQ.out W (HS9.out.trans (h.mono HS9.out.size))).1)
                  clear hq9
                  go_upto_region 12 with fail
                  have hs0 : Below w9.heap.size w9 w9.drew := Chg.below1 w9
                  go_region_held3 (fun W' => W'.cell? ⟨g, 0, none⟩ = some (.bool true)) (go_keep)
                    (first
                      | (go_at_call 14
                         (with_reducible refine (HCn.out _ ?_).mono ?_)
                         (exact HB9.out.trans (hs0.mono HB9.out.size))
                         rintro e w10 ⟨rfl, hb10⟩
                         have hs10 := hs0.trans hb10
                         clear q0
                         have q0 := HQ0.out _ hs10))
                  all_goals
                    have HB10 := Lib.hid (HB9.out.trans (hs10.mono HB9.out.size))
                    have HS10 := Lib.hid (HS9.out.trans (hs10.mono HS9.out.size))
                    clear hs10 hb10 hs0 HQ0 q0 HB9 HS9
                    go_wp2_with fail
                    refine (HGr.out _ HB10.out).mono ?_
                    rintro e w11 ⟨rfl, hb11⟩
                    have HB11 := Lib.hid (HB10.out.trans (hb11.mono HB10.out.size))
                    have hs11 := HS10.out.trans (hb11.mono HS10.out.size)
                    have HS11 := Lib.hid hs11
                    obtain ⟨q0, q1, q2⟩ := HQ.out _ hs11
                    clear hb11 hs11 HB10 HS10
                    have q5 := HQ5.out _ HS11.out
                    go_wp2_with fail
                    refine (HHo.out _ HS11.out).mono ?_
                    rintro e w12 ⟨rfl, k, rfl⟩
                    have HB12 : Hid (Below w.heap.size w (w11.drewN k)) := Lib.hid (below_drewN HB11.out k)
                    generalize w11.drewN k = w12 at *
                    go_wp2_with fail
                    refine (HAw.out _).mono ?_
                    rintro e w4 ⟨rfl, hb4⟩
                    have HB4 := Lib.hid (HB12.out.trans (hb4.mono HB12.out.size))
                    clear hb4
                    go_wp2
                    go_ret
                    exact ⟨rfl, HB4.out⟩
            | false =>
              obtain ⟨rfl, rfl, hpl, hpi, made, hrp, hml, hmlast, hme⟩ := h4 rfl rfl
              clear h3 h4
              have Hpi := Lib.hid hpi
              have Hrp := Lib.hid hrp
              have Hml := Lib.hid hmlast
              have Hme := Lib.hid hme
              have hpl64 : rc.length ≤ 9223372036854775807 := by omega
              clear hpi hrp hmlast hme
              have hq9 := HQ.out _ HS9.out
              have q0 := hq9.1
              have HQ0 := Lib.hid (fun W (h : Below w9.heap.size w9 W) => (HQ.out W (HS9.out.trans (h.mono HS9.out.size))).1)
              clear hq9
              go_upto_region 12 with fail
              have hs0 : Below w9.heap.size w9 w9.drew := Chg.below1 w9
              go_region_held3 (fun W' => W'.cell? ⟨g, 0, none⟩ = some (.bool false)) (go_keep)
                (first
                  | (go_at_call 14
                     (with_reducible refine (HCn.out _ ?_).mono ?_)
                     (exact HB9.out.trans (hs0.mono HB9.out.size))
                     rintro e w10 ⟨rfl, hb10⟩
                     have hs10 := hs0.trans hb10
                     clear q0
                     have q0 := HQ0.out _ hs10))
              all_goals
                have HB10 := Lib.hid (HB9.out.trans (hs10.mono HB9.out.size))
                have HS10 := Lib.hid (HS9.out.trans (hs10.mono HS9.out.size))
                clear hs10 hb10 hs0 HQ0 q0 HB9 HS9
                go_wp2_with fail
                refine (HGr.out _ HB10.out).mono ?_
                rintro e w11 ⟨rfl, hb11⟩
                have HB11 := Lib.hid (HB10.out.trans (hb11.mono HB10.out.size))
                have hs11 := HS10.out.trans (hb11.mono HS10.out.size)
                have HS11 := Lib.hid hs11
                obtain ⟨q0, q1, q2⟩ := HQ.out _ hs11
                clear hb11 hs11 HB10 HS10
                have HS11b := Lib.hid (HCp8.out.below HS11.out)
                go_wp2_with fail
                refine (back_calls HS11b.out hcp (by omega)).mono ?_
                rintro e w12 ⟨A12, c12, rfl, hm12, hb12⟩
                have HB12 := Lib.hid (HB11.out.trans (hb12.mono HB11.out.size))
                have HS12 := Lib.hid (HS11.out.trans (hb12.mono HS11.out.size))
                have HRr := Lib.hid (rreplay_calls S1 Any A1 A12 c1 c12 l rc w12 (HL.out.below HB12.out) hc1 (hm12.read.2.2.mono (fun _ _ => trivial)) hm12.read.2.1 (by omega) H70.out Hpi.out)
                rw [Hrp.out] at HRr
                clear hm12 hb12 q0 q1 q2 HB11 HS11 HS11b
                go_wp2_with fail
                refine HRr.out.mono ?_
                rintro e w13 ⟨A13, c13, rfl, hc13, hC13, hb13⟩
                dsimp only at hc13 hC13 ⊢
                have HB13 := Lib.hid (HB12.out.trans (hb13.mono HB12.out.size))
                obtain ⟨q0, q1, q2⟩ := HQ.out _ (HS12.out.trans (hb13.mono HS12.out.size))
                have HC13 := Lib.hid hC13
                clear hb13 hC13 HB12 HS12 HRr
                cases made with
                | nil =>
                  have HEm := Lib.hid (empty_calls (HL.out.below HB13.out) hc1)
                  rw [Hme.out rfl] at HEm
                  go_wp2_with fail
                  refine HEm.out.mono ?_
                  rintro e w14 ⟨rfl, hb14⟩
                  have HB14 := Lib.hid (HB13.out.trans (hb14.mono HB13.out.size))
                  clear hb14
                  go_wp2_with fail
                  refine (HAw.out _).mono ?_
                  rintro e w4 ⟨rfl, hb4⟩
                  have HB4 := Lib.hid (HB14.out.trans (hb4.mono HB14.out.size))
                  clear hb4
                  go_wp2
                  go_ret
                  exact ⟨rfl, HB4.out⟩
                | cons m0 mr =>
                  have hlast : (m0 :: mr)[mr.length]'(by simp) = [] := by
                    refine Hml.out _ ?_
                    rw [List.getLast?_eq_getElem?]
                    simp
                  obtain ⟨b9, o9, A9', c9', rfl, hb9, q9, hl9, _⟩ := cls_at HC13.out mr.length (by simp)
                  rw [hlast] at q9
                  have hmr : (m0 :: mr).length = mr.length + 1 := rfl
                  have hml2 : mr.length ≤ 20000 := by rw [hmr] at hml; omega
                  have wz : IntKind.i64.wrap (((mr.length + 1 : Nat) : Int) - 1) = ((mr.length : Nat) : Int) := by rw [IntKind.wrap_i64]; omega
                  have p1 : (0 : Int) < ((mr.length + 1 : Nat) : Int) := by omega
                  have p2 : ((mr.length : Nat) : Int) < ((mr.length + 1 : Nat) : Int) := by omega
                  have p3 : (0 : Int) ≤ ((mr.length : Nat) : Int) := by omega
                  have p4 : (((mr.length + 1 : Nat) : Int) == 0) = false := beq_eq_false_iff_ne.2 (by omega)
                  clear hlast hl9
                  go_wp2_with fail
                  refine (HAw.out _).mono ?_
                  rintro e w4 ⟨rfl, hb4⟩
                  have HB4 := Lib.hid (HB13.out.trans (hb4.mono HB13.out.size))
                  clear hb4
                  go_wp2
                  go_ret
                  exact ⟨rfl, HB4.out⟩
          · have HLm : Hid (∀ W, Calls Try.prog 13 #[.int .i64 7] W fun r w' => r = .returned (.bool true) ∧ w' = W) := Lib.hid (fun W => limit_calls 7 W)
            clear h2 h3 h4
            go_wp2_with fail
            refine (HLm.out _).mono ?_
            rintro e w10 ⟨rfl, rfl⟩
            go_wp2_with fail
            refine (HAw.out _).mono ?_
            rintro e w4 ⟨rfl, hb4⟩
            have HB4 := Lib.hid (HB9.out.trans (hb4.mono HB9.out.size))
            clear hb4
            go_wp2
            go_ret
            exact ⟨rfl, HB4.out⟩
          · have hlt : fuel < wrap64 ((2 : Int) ^ n) := by rw [HPw.out]; exact h2 rfl
            have hn0 : (0 : Int) ≤ (n : Int) := by omega
            clear h2 h3 h4
            go_wp2_with fail
            refine (HGr.out _ HB9.out).mono ?_
            rintro e w10 ⟨rfl, hb10⟩
            have HB10 := Lib.hid (HB9.out.trans (hb10.mono HB9.out.size))
            clear hb10
            go_wp2_with fail
            refine (HAw.out _).mono ?_
            rintro e w4 ⟨rfl, hb4⟩
            have HB4 := Lib.hid (HB10.out.trans (hb4.mono HB10.out.size))
            clear hb4
            go_wp2
            go_ret
            exact ⟨rfl, HB4.out⟩
    · have gE : (checkL l != 0) = true := bne_iff_ne.2 hck
      have gE2 : (checkL l == 0) = false := beq_eq_false_iff_ne.2 hck
      rw [solves_err hck] at HSo
      clear hck
      have gS : (checkL l == checkL l) = true := beq_self_eq_true _
      generalize checkL l = E at *
      go_enter Try.func3, Try.ntmps3
      go_wp2_with fail
      refine HS1.out.mono ?_
      rintro e w1 ⟨rfl, hb1⟩
      have HB1 := Lib.hid hb1
      clear hb1 HS1
      go_wp2_with fail
      refine (HCk.out _ HB1.out).mono ?_
      rintro e w2 ⟨rfl, hb2⟩
      have HB2 := Lib.hid (HB1.out.trans (hb2.mono HB1.out.size))
      clear hb2
      go_wp2_with fail
      refine (HCl.out _ HB2.out).mono ?_
      rintro e w6 ⟨A6, c6, rfl, hx6⟩
      have HB6 := Lib.hid (HB2.out.trans (hx6.below.mono HB2.out.size))
      have HX6 := Lib.hid hx6
      clear hx6 HB2
      go_wp2_with fail
      refine (HSo.out _ _ _ (HX6.out.all.read.2.2.mono (fun _ _ => trivial)) HX6.out.all.read.2.1).mono ?_
      rintro e w7 ⟨Av, cv, Ap, cp, rfl, hcv, hCv, hcp, hCp, hb7⟩
      dsimp only at hcv hCv hcp hCp ⊢
      have hb8 := (HB6.out.trans (hb7.mono HB6.out.size))
      have HB8 := Lib.hid (hb8.alloc hb8.size (.cells #[.bool false, .slice Av 0 cv, .slice Ap 0 cp] 31))
      clear hb7 hb8 hCp hCv HX6 HB6 HSo hcv hcp
      go_upto_region 4 with fail
      generalize w7.alloc (.cells #[.bool false, .slice Av 0 cv, .slice Ap 0 cp] 31) = w8 at *
      generalize w7.heap.size = g at *
      go_wp2_with fail
      refine (HCk.out _ HB8.out).mono ?_
      rintro e w9 ⟨rfl, hb9⟩
      have HB9 := Lib.hid (HB8.out.trans (hb9.mono HB8.out.size))
      clear hb9
      go_wp2_with fail
      refine (HCk.out _ HB9.out).mono ?_
      rintro e w10 ⟨rfl, hb10⟩
      have HB10 := Lib.hid (HB9.out.trans (hb10.mono HB9.out.size))
      clear hb10
      go_wp2_with fail
      refine (HAw.out _).mono ?_
      rintro e w4 ⟨rfl, hb4⟩
      have HB4 := Lib.hid (HB10.out.trans (hb4.mono HB10.out.size))
      clear hb4
      go_wp2
      go_ret
      exact ⟨rfl, HB4.out⟩
end Go.Proofs.Ytggfjfmgclcnlaa.Zb
