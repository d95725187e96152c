/- The law SatMore: its walk, and why it holds. -/
import Derived.Test.YtggfjfmgclcnlaaVk
namespace Go.Proofs.Ytggfjfmgclcnlaa.Zb
open Go Go.RowKit Go.Shelf Go.Proofs.Ytggfjfmgclcnlaa.K Go.Proofs.Ytggfjfmgclcnlaa.G Go.Proofs.Ytggfjfmgclcnlaa.Z
set_option linter.unusedSimpArgs false
set_option linter.unusedVariables false

theorem solve_right {l : List Cls} {fuel : Int} (h : (solveB l fuel).err = 0) : checkL l = 0 := by
  unfold solveB at h
  by_cases h0 : checkL l = 0
  · exact h0
  · rw [if_pos h0] at h
    exact h
theorem more_law {l more : List Cls} {fuel : Int} (hf0 : 0 ≤ fuel) (hf1 : fuel ≤ 100000) (h1 : (solveB l fuel).err = 0) (h2 : (solveB (l ++ more) fuel).err = 0) : ((solveB l fuel).holds || !(solveB (l ++ more) fuel).holds) = true := by
  cases ha : (solveB l fuel).holds with
  | true => rfl
  | false =>
    cases hb : (solveB (l ++ more) fuel).holds with
    | false => rfl
    | true =>
      obtain ⟨_, _, _, hn⟩ := solve_law (solve_right h1) hf0 hf1
      obtain ⟨_, _, hy, _⟩ := solve_law (solve_right h2) hf0 hf1
      have e1 := (hn h1 ha).2.1
      have e2 := (hy h2 hb).2.2.1
      unfold holdL at e1 e2
      rw [List.all_append, Bool.and_eq_true] at e2
      rw [e1] at e2
      exact absurd e2.1 (by decide)
theorem small_lens {l : List Cls} {np most : Nat} (h : smallB l np most = true) : l.length ≤ most ∧ ∀ c ∈ l, c.length ≤ 70 := by
  unfold smallB at h
  simp only [Bool.and_eq_true, decide_eq_true_eq, Bool.not_eq_true'] at h
  refine ⟨h.1.1, fun c hc => ?_⟩
  have := List.any_eq_false.1 h.2 c hc
  unfold longC at this
  simp only [decide_eq_true_eq] at this
  omega
set_option maxRecDepth 100000 in
set_option maxHeartbeats 4000000 in
theorem more_calls (S1 S2 : Nat → Prop) (A1 A2 : Option Addr) (c1 c2 : Nat) (l more : List Cls) (w : World) (hl : C kL S1 w A1 l) (hc1 : l.length ≤ c1) (hm : C kL S2 w A2 more) (hc2 : more.length ≤ c2) :
    Calls Try.prog 5 #[.slice A1 l.length c1, .slice A2 more.length c2] w fun e w' => e = .returned (.bool true) ∧ Below w.heap.size w w' := by
  have HS1 : Hid (Calls Try.prog 7 #[.slice A1 l.length c1, .slice none 0 0, .int .i64 60] w fun e w' => e = .returned (.bool (smallB l 0 60)) ∧ Below w.heap.size w w') := Lib.hid (small_calls hl hc1 none 0 0 (by decide) 60 (by decide))
  have HS2 : Hid (∀ W, Below w.heap.size w W → Calls Try.prog 7 #[.slice A2 more.length c2, .slice none 0 0, .int .i64 60] W fun e w' => e = .returned (.bool (smallB more 0 60)) ∧ Below W.heap.size W w') := Lib.hid (fun W hb => small_calls (hm.below hb) hc2 none 0 0 (by decide) 60 (by decide))
  have HAw := Lib.hid (fun W => awake_calls W)
  have HL := Lib.hid hl
  have HM := Lib.hid hm
  cases hs1 : smallB l 0 60 with
  | false =>
    rw [hs1] at HS1
    clear hl hm HS2 hs1
    go_enter Try.func5, Try.ntmps5
    go_wp2_with fail
    refine HS1.out.mono ?_
    rintro e w1 ⟨rfl, hb1⟩
    have HB1 := Lib.hid hb1
    clear hb1 HS1
    go_wp2_with fail
    refine (HAw.out _).mono ?_
    rintro e w2 ⟨rfl, hb2⟩
    have HB2 := Lib.hid (HB1.out.trans (hb2.mono HB1.out.size))
    clear hb2
    go_wp2
    go_ret
    exact ⟨rfl, HB2.out⟩
  | true =>
    obtain ⟨hl60, hl70⟩ := small_lens hs1
    rw [hs1] at HS1
    clear hs1
    cases hs2 : smallB more 0 60 with
    | false =>
      rw [hs2] at HS2
      clear hl hm hs2
      go_enter Try.func5, Try.ntmps5
      go_wp2_with fail
      refine HS1.out.mono ?_
      rintro e w1 ⟨rfl, hb1⟩
      have HB1 := Lib.hid hb1
      clear hb1 HS1
      go_wp2_with fail
      refine (HS2.out _ HB1.out).mono ?_
      rintro e w1 ⟨rfl, hb1⟩
      have HB1 := Lib.hid (HB1.out.trans (hb1.mono HB1.out.size))
      clear hb1 HS2
      go_wp2_with fail
      refine (HAw.out _).mono ?_
      rintro e w2 ⟨rfl, hb2⟩
      have HB2 := Lib.hid (HB1.out.trans (hb2.mono HB1.out.size))
      clear hb2
      go_wp2
      go_ret
      exact ⟨rfl, HB2.out⟩
    | true =>
      obtain ⟨hm60, hm70⟩ := small_lens hs2
      rw [hs2] at HS2
      clear hs2
      have HG1 := Lib.hid (fun W (hb : Below w.heap.size w W) => rgrt_calls (hl.below hb) hc1 (by omega) (fun c hc => Nat.le_trans (hl70 c hc) (by decide)))
      have HG2 := Lib.hid (fun W (hb : Below w.heap.size w W) => rgrt_calls (hm.below hb) hc2 (by omega) (fun c hc => Nat.le_trans (hm70 c hc) (by decide)))
      generalize grtI l = g1 at HG1
      generalize grtI more = g2 at HG2
      have H70 := Lib.hid hl70
      have H71 := Lib.hid hm70
      clear hl hm hl70 hm70
      by_cases e1 : 12 < g1
      · have d1 : g1 > 12 := e1
        clear HG2
        go_enter Try.func5, Try.ntmps5
        go_wp2_with fail
        refine HS1.out.mono ?_
        rintro e w1 ⟨rfl, hb1⟩
        have HB1 := Lib.hid hb1
        clear hb1 HS1
        go_wp2_with fail
        refine (HS2.out _ HB1.out).mono ?_
        rintro e w1 ⟨rfl, hb1⟩
        have HB1 := Lib.hid (HB1.out.trans (hb1.mono HB1.out.size))
        clear hb1 HS2
        go_wp2_with fail
        refine (HG1.out _ HB1.out).mono ?_
        rintro e w1 ⟨rfl, hb1⟩
        have HB1 := Lib.hid (HB1.out.trans (hb1.mono HB1.out.size))
        clear hb1 HG1
        go_wp2_with fail
        refine (HAw.out _).mono ?_
        rintro e w2 ⟨rfl, hb2⟩
        have HB2 := Lib.hid (HB1.out.trans (hb2.mono HB1.out.size))
        clear hb2
        go_wp2
        go_ret
        exact ⟨rfl, HB2.out⟩
      · by_cases e2 : 12 < g2
        · have d2 : g2 > 12 := e2
          go_enter Try.func5, Try.ntmps5
          go_wp2_with fail
          refine HS1.out.mono ?_
          rintro e w1 ⟨rfl, hb1⟩
          have HB1 := Lib.hid hb1
          clear hb1 HS1
          go_wp2_with fail
          refine (HS2.out _ HB1.out).mono ?_
          rintro e w1 ⟨rfl, hb1⟩
          have HB1 := Lib.hid (HB1.out.trans (hb1.mono HB1.out.size))
          clear hb1 HS2
          go_wp2_with fail
          refine (HG1.out _ HB1.out).mono ?_
          rintro e w1 ⟨rfl, hb1⟩
          have HB1 := Lib.hid (HB1.out.trans (hb1.mono HB1.out.size))
          clear hb1 HG1
          go_wp2_with fail
          refine (HG2.out _ HB1.out).mono ?_
          rintro e w1 ⟨rfl, hb1⟩
          have HB1 := Lib.hid (HB1.out.trans (hb1.mono HB1.out.size))
          clear hb1 HG2
          go_wp2_with fail
          refine (HAw.out _).mono ?_
          rintro e w2 ⟨rfl, hb2⟩
          have HB2 := Lib.hid (HB1.out.trans (hb2.mono HB1.out.size))
          clear hb2
          go_wp2
          go_ret
          exact ⟨rfl, HB2.out⟩
        · have HLaw := Lib.hid (more_law (l := l) (more := more) (fuel := 100000) (by decide) (by decide))
          have HSo1 : Hid (∀ W A c, C kL Any W A l → l.length ≤ c → Calls Try.prog 11 #[.slice A l.length c, .int .i64 100000] W (SvEnd W (solveB l 100000))) := Lib.hid (fun W A c h hc => solve_calls Any A c l 100000 W h hc (by omega) (fun d hd => Nat.le_trans (H70.out d hd) (by decide)))
          have HSo2 : Hid (∀ W A c, C kL Any W A (l ++ more) → (l ++ more).length ≤ c → Calls Try.prog 11 #[.slice A (l ++ more).length c, .int .i64 100000] W (SvEnd W (solveB (l ++ more) 100000))) := Lib.hid (fun W A c h hc => solve_calls Any A c (l ++ more) 100000 W h hc (by rw [List.length_append]; omega) (fun d hd => Nat.le_trans ((List.mem_append.1 hd).elim (H70.out d) (H71.out d)) (by decide)))
          have hlm0 : (l ++ more).length ≤ 120 := by rw [List.length_append]; omega
          obtain ⟨LM, hLM⟩ : ∃ LM, l ++ more = LM := ⟨_, rfl⟩
          have HLM := Lib.hid hLM
          rw [hLM] at HLaw HSo2 hlm0
          clear hLM
          have hlm1 : LM.length ≤ 9223372036854775807 := by omega
          generalize solveB l 100000 = R1 at HLaw HSo1
          generalize solveB LM 100000 = R2 at HLaw HSo2
          obtain ⟨ra, rb, rc, rd⟩ := R1
          obtain ⟨sa, sb, sc, sd⟩ := R2
          dsimp only at HLaw
          go_enter Try.func5, Try.ntmps5
          go_wp2_with fail
          refine HS1.out.mono ?_
          rintro e w1 ⟨rfl, hb1⟩
          have HB1 := Lib.hid hb1
          clear hb1 HS1
          go_wp2_with fail
          refine (HS2.out _ HB1.out).mono ?_
          rintro e w1 ⟨rfl, hb1⟩
          have HB1 := Lib.hid (HB1.out.trans (hb1.mono HB1.out.size))
          clear hb1 HS2
          go_wp2_with fail
          refine (HG1.out _ HB1.out).mono ?_
          rintro e w1 ⟨rfl, hb1⟩
          have HB1 := Lib.hid (HB1.out.trans (hb1.mono HB1.out.size))
          clear hb1 HG1
          go_wp2_with fail
          refine (HG2.out _ HB1.out).mono ?_
          rintro e w1 ⟨rfl, hb1⟩
          have HB1 := Lib.hid (HB1.out.trans (hb1.mono HB1.out.size))
          clear hb1 HG2
          go_wp2_with fail
          refine (clauses_calls (HL.out.below HB1.out) hc1 (by omega)).mono ?_
          rintro e w2 ⟨A3, c3, rfl, hx3⟩
          have HB2 := Lib.hid (HB1.out.trans (hx3.below.mono HB1.out.size))
          have HX3 := Lib.hid hx3
          clear hx3
          go_wp2_with fail
          refine (HSo1.out _ _ _ (HX3.out.all.read.2.2.mono (fun _ _ => trivial)) HX3.out.all.read.2.1).mono ?_
          rintro e w3 ⟨Av, cv, Ap, cp, rfl, _, _, _, _, hb3⟩
          dsimp only
          generalize rb.length = nb
          generalize rc.length = nc
          have HB3 := HB2.out.trans (hb3.mono HB2.out.size)
          have HB4 := Lib.hid (HB3.alloc HB3.size (.cells #[.bool ra, .slice Av nb cv, .slice Ap nc cp] 31))
          have hc4 := cells_at w3 #[.bool ra, .slice Av nb cv, .slice Ap nc cp] 31 _ 0 rfl
          have hl4 : w3.heap.size < (w3.alloc (.cells #[.bool ra, .slice Av nb cv, .slice Ap nc cp] 31)).heap.size := by simp
          have HC4 : Hid (∀ W, Below (w3.alloc (.cells #[.bool ra, .slice Av nb cv, .slice Ap nc cp] 31)).heap.size (w3.alloc (.cells #[.bool ra, .slice Av nb cv, .slice Ap nc cp] 31)) W → W.cell? ⟨w3.heap.size, 0, none⟩ = some (.bool ra)) := Lib.hid (fun W hb => (hb.cell (p := ⟨w3.heap.size, 0, none⟩) hl4).trans hc4)
          clear hc4 hl4 hb3 HB3 HX3 HSo1 HB2 HB1
          go_wp2_with fail
          refine (clone_lists (HL.out.below HB4.out) (by omega)).mono ?_
          rintro e w5 ⟨A5, c5, rfl, hm5, hb5⟩
          have hB5 := HB4.out.trans (hb5.mono HB4.out.size)
          obtain ⟨A6, n6, c6, w6, hrun, hn6, hm6, hg6, ho6⟩ := append_own (c := c2) (S := Any) (S' := fun k => S2 k ∧ k < w.heap.size) Try.underlying22 infoL rfl (by decide) (by decide) (hm5.mono (fun _ _ => trivial)) (HM.out.bound.below hB5)
            (fun k hk => ⟨trivial, fun e => by have := (hm5.base_le e).1; have := HB4.out.size; omega⟩) (by omega) hb5.size
          rw [HLM.out] at hn6 hm6
          subst hn6
          have hg6' := (Chg.grown hg6 (fun k e => .inl e) (T := fun k => (Value.slice A5 l.length c5).ownBlock = some k)).below hb5.size (fun k e => (hm5.base_le e).1)
          have hb6 := hb5.trans hg6'
          have HB6 := Lib.hid (HB4.out.trans (hb6.mono HB4.out.size))
          have HC6 := Lib.hid hb6
          have HM6 := Lib.hid hm6
          have HRun := Lib.hid hrun
          clear hm5 hb5 hB5 hrun hm6 hg6 ho6 hg6' hb6 HL HM HB4 HLM
          go_wp2_with (at_builtin; refine G.wpList_append_run rfl _ _ _ rfl _ _ rfl rfl _ _ HRun.out ?_)
          refine (clauses_calls (HM6.out.read.2.2) HM6.out.read.2.1 (by omega)).mono ?_
          rintro e w7 ⟨A7, c7, rfl, hx7⟩
          have HB7 := Lib.hid (HB6.out.trans (hx7.below.mono HB6.out.size))
          have HC7 := Lib.hid (HC6.out.trans (hx7.below.mono HC6.out.size))
          have HX7 := Lib.hid hx7
          clear hx7 HRun HM6 HB6 HC6
          go_wp2_with fail
          refine (HSo2.out _ _ _ (HX7.out.all.read.2.2.mono (fun _ _ => trivial)) HX7.out.all.read.2.1).mono ?_
          rintro e w8 ⟨Av8, cv8, Ap8, cp8, rfl, _, _, _, _, hb8⟩
          dsimp only
          generalize sb.length = nb8
          generalize sc.length = nc8
          have HB8 := HB7.out.trans (hb8.mono HB7.out.size)
          have HC8 := HC7.out.trans (hb8.mono HC7.out.size)
          have HB9 := Lib.hid (HB8.alloc HB8.size (.cells #[.bool sa, .slice Av8 nb8 cv8, .slice Ap8 nc8 cp8] 31))
          have q1 := HC4.out _ (HC8.alloc HC8.size (.cells #[.bool sa, .slice Av8 nb8 cv8, .slice Ap8 nc8 cp8] 31))
          have q2 := cells_at w8 #[.bool sa, .slice Av8 nb8 cv8, .slice Ap8 nc8 cp8] 31 _ 0 rfl
          clear HB8 HC8 hb8 HB7 HC7 HX7 HSo2
          by_cases he1 : rd = 0
          · have b1 : (rd != 0) = false := by rw [he1]; rfl
            by_cases he2 : sd = 0
            · have b2 : (sd != 0) = false := by rw [he2]; rfl
              have hlaw := HLaw.out he1 he2
              clear he1 he2 HLaw
              cases ra with
              | true =>
                go_wp2_with fail
                refine (HAw.out _).mono ?_
                rintro e w2 ⟨rfl, hb2⟩
                have HB2 := Lib.hid (HB9.out.trans (hb2.mono HB9.out.size))
                clear hb2
                go_wp2
                go_ret
                exact ⟨rfl, HB2.out⟩
              | false =>
                cases sa with
                | true => exact absurd hlaw (by decide)
                | false =>
                  go_wp2_with fail
                  refine (HAw.out _).mono ?_
                  rintro e w2 ⟨rfl, hb2⟩
                  have HB2 := Lib.hid (HB9.out.trans (hb2.mono HB9.out.size))
                  clear hb2
                  go_wp2
                  go_ret
                  exact ⟨rfl, HB2.out⟩
            · have b2 : (sd != 0) = true := bne_iff_ne.2 he2
              clear he1 he2 HLaw
              go_wp2_with fail
              refine (HAw.out _).mono ?_
              rintro e w2 ⟨rfl, hb2⟩
              have HB2 := Lib.hid (HB9.out.trans (hb2.mono HB9.out.size))
              clear hb2
              go_wp2
              go_ret
              exact ⟨rfl, HB2.out⟩
          · have b1 : (rd != 0) = true := bne_iff_ne.2 he1
            clear he1 HLaw
            go_wp2_with fail
            refine (HAw.out _).mono ?_
            rintro e w2 ⟨rfl, hb2⟩
            have HB2 := Lib.hid (HB9.out.trans (hb2.mono HB9.out.size))
            clear hb2
            go_wp2
            go_ret
            exact ⟨rfl, HB2.out⟩
end Go.Proofs.Ytggfjfmgclcnlaa.Zb
