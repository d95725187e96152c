/- The law SatTrims: its walk, and why it holds. -/
import Derived.Test.YtggfjfmgclcnlaaVm
import Derived.Deep.CutRange
namespace Go.Proofs.Ytggfjfmgclcnlaa.Zb
open Go Go.RowKit Go.Shelf Go.Proofs.Ytggfjfmgclcnlaa.K Go.Proofs.Ytggfjfmgclcnlaa.G Go.Proofs.Ytggfjfmgclcnlaa.Z
set_option linter.unusedSimpArgs false
set_option linter.unusedVariables false

/-- a proof that Solve finds: it replays, its last clause is empty, and it is its own Trim -/
theorem proof_law {l : List Cls} {fuel : Int} (hf0 : 0 ≤ fuel) (hf1 : fuel ≤ 100000) (h1 : (solveB l fuel).err = 0) (h2 : (solveB l fuel).holds = false) :
    trimB l (solveB l fuel).proof = ((solveB l fuel).proof, 0) ∧ (solveB l fuel).proof.length ≤ 20000 ∧ (∀ s ∈ (solveB l fuel).proof, -9223372036854775808 ≤ s.2.2 ∧ s.2.2 ≤ 9223372036854775807) ∧ ∃ made, replB l (solveB l fuel).proof = (made, 0, 0) ∧ made.length ≤ 20000 ∧ ∀ c, made.getLast? = some c → c = [] := by
  have hck := solve_right h1
  obtain ⟨_, _, _, hn⟩ := solve_law hck hf0 hf1
  obtain ⟨_, _, _, p, made, e1, e2, e3, e4, e5, e6, _⟩ := hn h1 h2
  obtain ⟨_, _, _, _, _, t4, _⟩ := trim_law e2
  rw [e1] at e3 e4 e5 ⊢
  refine ⟨t4, e4, repl_atoms e3 (checkL_ok hck).2, made, ?_, by omega, e6⟩
  rw [replB_ok hck e4 e3, List.drop_left]
theorem made_law {l : List Cls} {p : List Stp} {m : List Cls} {k : Int} (h : replB l p = (m, k, 0)) {v : List Bool} : (∀ c ∈ m, rightC c = true) ∧ (holdL v l = true → holdL v m = true) := by
  obtain ⟨hck, _, all, hR, _, he⟩ := replB_inv (l := l) (p := p) (by rw [h])
  rw [h] at he
  have hr := (checkL_ok hck).2
  refine ⟨fun c hc => hR.right hr c (by rw [← he]; exact List.mem_append_right _ hc), fun hv => ?_⟩
  have := hR.holds hr hv
  rw [← he] at this
  unfold holdL at this ⊢
  rw [List.all_append, Bool.and_eq_true] at this
  exact this.2
/-- a row of Booleans of one's own, of one element -/
theorem bool_one {w : World} {S : Nat → Prop} (x : Bool) : Mine G.bool w.heap.size S (w.alloc (.cells #[.bool x] 4)) (.slice (some ⟨w.heap.size, 0, none⟩) 1 1) [x] := by
  refine ⟨_, 1, rfl, Nat.le_refl _, by decide, .inr ⟨w.heap.size, 0, rfl, Nat.le_refl _, by simp, fun j hj => ?_, fun j y hj => ?_⟩⟩
  · have hj1 : j < 1 := hj
    obtain rfl : j = 0 := by omega
    exact ⟨by rw [cells_at w #[.bool x] 4 _ _ rfl]; rfl, frozen_at w _ _ _ _ rfl⟩
  · cases j with
    | succ j => simp at hj
    | zero =>
      simp only [List.getElem?_cons_zero, Option.some.injEq] at hj
      subst hj
      refine ⟨[.bool x], rfl, fun i u hu => ?_⟩
      cases i with
      | succ i => simp at hu
      | zero =>
        simp only [List.getElem?_cons_zero, Option.some.injEq] at hu
        subst hu
        exact cells_at w #[.bool x] 4 _ _ rfl
theorem bool_push {base : Nat} {W : World} {A : Option Addr} {n c : Nat} {bs : List Bool} (h : Mine G.bool base NoB W (.slice A n c) bs) (hn : bs.length = n) (hb : base ≤ W.heap.size) (hs : n ≤ 1000) (x : Bool) :
    ∃ A' c' w1, (Builtin.append_ #[28, 28] 28 #[.slice A n c, .slice (some ⟨W.heap.size, 0, none⟩) 1 1]).run Try.prog (W.alloc (.cells #[.bool x] 4)) = .ok (.slice A' (n + 1) c') w1 ∧ Mine G.bool base NoB w1 (.slice A' (n + 1) c') (bs ++ [x]) ∧ Below base W w1 := by
  have hwa : Below W.heap.size W (W.alloc (.cells #[.bool x] 4)) := (Below.refl _ _).alloc (Nat.le_refl _) _
  obtain ⟨A', n', c', w1, hrun, hn', hm, hg, ho⟩ := append_own (c := 1) (S := Any) (S' := fun k => k = W.heap.size) Try.underlying28 infoBo rfl (by decide) (by decide) ((h.below hwa).mono (fun _ h => h.elim)) (one_bool (alloc_new W (.cells #[.bool x] 4)) rfl)
    (fun k hk => ⟨trivial, fun e => by have := (h.base_le e).2; omega⟩) (by simp; omega) (Nat.le_trans hb hwa.size)
  rw [List.length_append, hn] at hn'
  have hn2 : n' = n + 1 := hn'
  subst hn2
  exact ⟨A', c', w1, hrun, mine_bool hm, (hwa.mono hb).trans ((Chg.grown hg (fun k e => .inl e) (T := fun k => (Value.slice A n c).ownBlock = some k)).below (Nat.le_trans hb hwa.size) (fun k e => (h.base_le e).1))⟩
theorem replB_few (l : List Cls) (p : List Stp) : (replB l p).1.length ≤ p.length := by
  by_cases h : (replB l p).2.2 = 0
  · obtain ⟨_, _, all, hR, he, _⟩ := replB_inv h
    have h1 := hR.len
    rw [he]
    simp only [List.length_drop]
    omega
  · unfold replB at h ⊢
    by_cases h0 : checkL l ≠ 0
    · rw [if_pos h0]; exact Nat.zero_le _
    · rw [if_neg h0] at h ⊢
      by_cases h1 : 20000 < p.length
      · rw [if_pos h1]; exact Nat.zero_le _
      · rw [if_neg h1] at h ⊢
        split
        · exact Nat.zero_le _
        · rename_i e; rw [e] at h; exact absurd rfl h
theorem lit_small {c : Cls} (h : rightC c = true) : ∀ x ∈ c, -1000000000 ≤ x ∧ x ≤ 1000000000 := fun x hx => by
  have := ((right_iff.1 h).1 x hx).2
  omega
set_option maxRecDepth 100000 in
set_option maxHeartbeats 8000000 in
theorem trims_calls (S1 S2 : Nat → Prop) (A1 A2 : Option Addr) (c1 c2 : Nat) (l : List Cls) (p : List Stp) (val : Int) (w : World) (hl : C kL S1 w A1 l) (hc1 : l.length ≤ c1) (hp : C kS S2 w A2 p) (hc2 : p.length ≤ c2) (hpi : ∀ s ∈ p, -9223372036854775808 ≤ s.2.2 ∧ s.2.2 ≤ 9223372036854775807) :
    Calls Try.prog 4 #[.slice A1 l.length c1, .slice A2 p.length c2, .int .u16 val] w fun e w' => e = .returned (.bool true) ∧ Below w.heap.size w w' := by
  have HS1 : Hid (Calls Try.prog 7 #[.slice A1 l.length c1, .slice A2 p.length c2, .int .i64 100] w fun e w' => e = .returned (.bool (smallB l p.length 100)) ∧ Below w.heap.size w w') := Lib.hid (small_calls hl hc1 A2 p.length c2 (by have := hp.len; unfold maxLen at this; omega) 100 (by decide))
  have HAw := Lib.hid (fun W => awake_calls W)
  cases hs1 : smallB l p.length 100 with
  | false =>
    rw [hs1] at HS1
    clear hl hp hs1 hpi
    go_enter Try.func4, Try.ntmps4
    go_wp2_with fail
    refine HS1.out.mono ?_
    rintro e w1 ⟨rfl, hb1⟩
    have HB1 := Lib.hid hb1
    clear hb1 HS1
    go_wp2_with fail
    refine (HAw.out _).mono ?_
    rintro e w2 ⟨rfl, hb2⟩
    have HB2 := Lib.hid (HB1.out.trans (hb2.mono HB1.out.size))
    clear hb2
    go_wp2
    go_ret
    exact ⟨rfl, HB2.out⟩
  | true =>
    obtain ⟨hl60, hl70⟩ := small_lens hs1
    have hp100 : p.length ≤ 100 := by
      unfold smallB at hs1
      simp only [Bool.and_eq_true, decide_eq_true_eq] at hs1
      exact hs1.1.2
    rw [hs1] at HS1
    have HCl := Lib.hid (fun W (hb : Below w.heap.size w W) => clauses_calls (hl.below hb) hc1 (by omega))
    have HGr := Lib.hid (fun W (hb : Below w.heap.size w W) => rgrt_calls (hl.below hb) hc1 (by omega) (fun c hc => Nat.le_trans (hl70 c hc) (by decide)))
    have HCk := Lib.hid (fun W A c (h : C kL (fun k => Any k ∨ A.map (·.block) = some k) W A l) (hc : l.length ≤ c) => check_calls h hc (by omega) (fun c hc => Nat.le_trans (hl70 c hc) (by decide)))
    have HSt := Lib.hid (fun W (hb : Below w.heap.size w W) => steps_calls (hp.below hb) hc2 (by omega))
    have HL := Lib.hid hl
    have H70 : Hid (∀ c ∈ l, c.length ≤ 1000000000) := Lib.hid (fun c hc => Nat.le_trans (hl70 c hc) (by decide))
    have Hpi := Lib.hid hpi
    clear hs1 hl70 hl hp hpi
    obtain ⟨E, hE⟩ : ∃ E, checkL l = E := ⟨_, rfl⟩
    rw [hE] at HCk
    have HE := Lib.hid hE
    clear hE
    by_cases hE0 : E = 0
    · have hck : checkL l = 0 := HE.out.trans hE0
      have gE : (E != 0) = false := by rw [hE0]; rfl
      generalize grtI l = g1 at HGr
      by_cases e1 : 12 < g1
      · have d1 : g1 > 12 := e1
        clear hE0 hck
        go_enter Try.func4, Try.ntmps4
        go_wp2_with fail
        refine HS1.out.mono ?_
        rintro e w1 ⟨rfl, hb1⟩
        have HB1 := Lib.hid hb1
        clear hb1 HS1
        go_wp2_with fail
        refine (HCl.out _ HB1.out).mono ?_
        rintro e w3 ⟨A3, c3, rfl, hx3⟩
        have HB3 := Lib.hid (HB1.out.trans (hx3.below.mono HB1.out.size))
        have HX3 := Lib.hid hx3
        clear hx3
        go_wp2_with fail
        refine (HCk.out _ _ _ HX3.out.all.read.2.2 HX3.out.all.read.2.1).mono ?_
        rintro e w4 ⟨rfl, hb4⟩
        have HB4 := Lib.hid (HB3.out.trans (hb4.mono HB3.out.size))
        clear hb4
        go_wp2_with fail
        refine (HGr.out _ HB4.out).mono ?_
        rintro e w5 ⟨rfl, hb5⟩
        have HB5 := Lib.hid (HB4.out.trans (hb5.mono HB4.out.size))
        clear hb5
        go_wp2_with fail
        refine (HAw.out _).mono ?_
        rintro e w2 ⟨rfl, hb2⟩
        have HB2 := Lib.hid (HB5.out.trans (hb2.mono HB5.out.size))
        clear hb2
        go_wp2
        go_ret
        exact ⟨rfl, HB2.out⟩
      · have HLaw := Lib.hid (proof_law (l := l) (fuel := 100000) (by decide) (by decide))
        have HSo := Lib.hid (fun W A c (h : C kL Any W A l) (hc : l.length ≤ c) => solve_calls Any A c l 100000 W h hc (by omega) H70.out)
        obtain ⟨R, hR⟩ : ∃ R, solveB l 100000 = R := ⟨_, rfl⟩
        rw [hR] at HLaw HSo
        clear hR
        obtain ⟨ra, rb, rc, rd⟩ := R
        dsimp only at HLaw
        have Hck := Lib.hid hck
        clear hE0 hck HE
        go_enter Try.func4, Try.ntmps4
        go_wp2_with fail
        refine HS1.out.mono ?_
        rintro e w1 ⟨rfl, hb1⟩
        have HB1 := Lib.hid hb1
        clear hb1 HS1
        go_wp2_with fail
        refine (HCl.out _ HB1.out).mono ?_
        rintro e w3 ⟨A3, c3, rfl, hx3⟩
        have HB3 := Lib.hid (HB1.out.trans (hx3.below.mono HB1.out.size))
        have HX3 := Lib.hid hx3
        clear hx3
        go_wp2_with fail
        refine (HCk.out _ _ _ HX3.out.all.read.2.2 HX3.out.all.read.2.1).mono ?_
        rintro e w4 ⟨rfl, hb4⟩
        have HB4 := Lib.hid (HB3.out.trans (hb4.mono HB3.out.size))
        clear hb4
        go_wp2_with fail
        refine (HGr.out _ HB4.out).mono ?_
        rintro e w5 ⟨rfl, hb5⟩
        have HB5 := Lib.hid (HB4.out.trans (hb5.mono HB4.out.size))
        clear hb5 HX3 HB1 HB3 HB4 HGr HCk
        go_wp2_with fail
        refine (HCl.out _ HB5.out).mono ?_
        rintro e w6 ⟨A6, c6, rfl, hx6⟩
        have HB6 := Lib.hid (HB5.out.trans (hx6.below.mono HB5.out.size))
        have HX6 := Lib.hid hx6
        clear hx6 HB5
        go_wp2_with fail
        refine (HSo.out _ _ _ (HX6.out.all.read.2.2.mono (fun _ _ => trivial)) HX6.out.all.read.2.1).mono ?_
        rintro e w7 ⟨Av, cv, Ap, cp, rfl, _, _, hcp, hCp, hb7⟩
        dsimp only at hcp hCp ⊢
        generalize rb.length = nb
        have hb8 := (HB6.out.trans (hb7.mono HB6.out.size))
        have HB8 := Lib.hid (hb8.alloc hb8.size (.cells #[.bool ra, .slice Av nb cv, .slice Ap rc.length cp] 31))
        have hbq : Below w7.heap.size w7 (w7.alloc (.cells #[.bool ra, .slice Av nb cv, .slice Ap rc.length cp] 31)) := (Below.refl _ _).alloc (Nat.le_refl _) _
        have q0 := cells_at w7 #[.bool ra, .slice Av nb cv, .slice Ap rc.length cp] 31 _ 0 rfl
        have q2 := cells_at w7 #[.bool ra, .slice Av nb cv, .slice Ap rc.length cp] 31 _ 2 rfl
        have hl8 : w7.heap.size < (w7.alloc (.cells #[.bool ra, .slice Av nb cv, .slice Ap rc.length cp] 31)).heap.size := by simp
        have hCp8 := hCp.below hbq
        clear hb7 hb8 hbq hCp HX6 HB6 HSo
        obtain ⟨b, hb⟩ : ∃ b, (rd == 0 && !ra) = b := ⟨_, rfl⟩
        have Hb := Lib.hid hb
        clear hb
        go_upto_region 4 with fail
        generalize w7.alloc (.cells #[.bool ra, .slice Av nb cv, .slice Ap rc.length cp] 31) = w8 at *
        go_cut [51] from 45 to 50 (fun v51 wx => v51 = .bool b ∧ wx = w8)
        case first =>
          by_cases hrd : rd = 0
          · have g1 : (rd == 0) = true := by rw [hrd]; rfl
            have hb := Hb.out
            rw [g1] at hb
            clear hrd Hb
            cases ra with
            | true =>
              have hb2 : false = b := hb
              subst hb2
              clear hb
              go_wp2
              go_meet
              exact ⟨rfl, rfl⟩
            | false =>
              have hb2 : true = b := hb
              subst hb2
              clear hb
              go_wp2
              go_meet
              exact ⟨rfl, rfl⟩
          · have g1 : (rd == 0) = false := beq_eq_false_iff_ne.2 hrd
            have hb := Hb.out
            rw [g1] at hb
            have hb2 : false = b := hb
            subst hb2
            clear hrd Hb hb
            go_wp2
            go_meet
            exact ⟨rfl, rfl⟩
        case rest =>
          obtain ⟨rfl, rfl⟩ := hcut
          go_upto_if 51 with fail
          go_cut [9, 10, 11, 12, 13, 14] from 52 to 111 (fun _ _ _ _ _ _ wx => Hid (Below w.heap.size w wx))
          case first =>
            cases b with
            | false =>
              clear HLaw Hb q0 q2
              go_wp2
              go_meet
              exact HB8
            | true =>
              have hb := Hb.out
              simp only [Bool.and_eq_true, beq_iff_eq, Bool.not_eq_true'] at hb
              obtain ⟨t1, t2, t3, made, m1, m2, m3⟩ := HLaw.out hb.1 hb.2
              have HTm := Lib.hid (fun W A c A' c' (h : C kL Any W A l) (hc : l.length ≤ c) (h' : C kS Any W A' rc) (hc' : rc.length ≤ c') => trim_calls Any Any A A' c c' l rc W h hc h' hc' (by omega) H70.out t3)
              have HRm := Lib.hid (fun W A c A' c' (h : C kL Any W A l) (hc : l.length ≤ c) (h' : C kS Any W A' rc) (hc' : rc.length ≤ c') => replay_calls Any Any A A' c c' l rc W h hc h' hc' (by omega) H70.out t3)
              rw [t1] at HTm
              rw [m1] at HRm
              have HM3 := Lib.hid m3
              have HQ : Hid (∀ W, Below wc.heap.size wc W → W.cell? ⟨w7.heap.size, 2, none⟩ = some (.slice Ap rc.length cp)) := Lib.hid (fun W hb => (hb.cell (p := ⟨w7.heap.size, 2, none⟩) hl8).trans q2)
              have hcp64 : rc.length ≤ 9223372036854775807 := by omega
              have HCp8 := Lib.hid hCp8
              have hs0 : Below wc.heap.size wc wc.drew := Chg.below1 wc
              clear HLaw Hb q0 hb t1 t2 t3 m1 m3 hCp8
              go_upto_region 5 with fail
              go_region_held3 (fun W' => W'.cell? ⟨w7.heap.size, 2, none⟩ = some (.slice Ap rc.length cp)) (go_keep)
                (first
                  | (go_at_call 12
                     (with_reducible refine (HCl.out _ ?_).mono ?_)
                     (exact HB8.out.trans (hs0.mono HB8.out.size))
                     rintro e w9 ⟨A9, c9, rfl, hx9⟩
                     have hs9 := hs0.trans hx9.below
                     clear q2
                     have q2 := HQ.out _ hs9)
                  | (go_at_call 21
                     (with_reducible refine (HTm.out _ _ _ _ _ ?_ ?_ ?_ ?_).mono ?_)
                     (exact hx9.all.read.2.2.mono (fun _ _ => trivial))
                     (exact hx9.all.read.2.1)
                     (exact HCp8.out.below hs9)
                     (exact hcp)
                     rintro e w10 ⟨hTE, hb10⟩
                     rw [if_pos rfl] at hTE
                     obtain ⟨A10, c10, rfl, hm10⟩ := hTE
                     have hs10 := hs9.trans (hb10.mono hs9.size)
                     clear q2
                     have q2 := HQ.out _ hs10))
              all_goals
                have HB10 := Lib.hid (HB8.out.trans (hs10.mono HB8.out.size))
                have HC10 := Lib.hid (hm10.read.2.2.mono (S' := Any) (fun _ _ => trivial))
                have hc10 := hm10.read.2.1
                clear hm10 hs10 hs9 hx9 hb10 hs0 HQ HCp8 HB8
                go_wp2_with fail
                refine (HCl.out _ HB10.out).mono ?_
                rintro e w11 ⟨A11, c11, rfl, hx11⟩
                have HB11 := Lib.hid (HB10.out.trans (hx11.below.mono HB10.out.size))
                have HC11 := Lib.hid (HC10.out.below hx11.below)
                have HX11 := Lib.hid hx11
                clear hx11 q2 HB10 HC10
                go_wp2_with fail
                refine (HTm.out _ _ _ _ _ (HX11.out.all.read.2.2.mono (fun _ _ => trivial)) HX11.out.all.read.2.1 HC11.out hc10).mono ?_
                rintro e w12 ⟨hTE, hb12⟩
                rw [if_pos rfl] at hTE
                obtain ⟨A12, c12, rfl, hm12⟩ := hTE
                have HB12 := Lib.hid (HB11.out.trans (hb12.mono HB11.out.size))
                have HC12 := Lib.hid (HC11.out.below hb12)
                have HA12 := Lib.hid (hm12.read.2.2.mono (S' := Any) (fun _ _ => trivial))
                clear hb12 hm12 HX11 HB11 HC11
                go_wp2_with fail
                refine (HCl.out _ HB12.out).mono ?_
                rintro e w13 ⟨A13, c13, rfl, hx13⟩
                have HB13 := Lib.hid (HB12.out.trans (hx13.below.mono HB12.out.size))
                have HC13 := Lib.hid (HC12.out.below hx13.below)
                have HA13 := Lib.hid (HA12.out.below hx13.below)
                have HX13 := Lib.hid hx13
                clear hx13 HB12 HC12 HA12
                go_wp2_with fail
                refine (HRm.out _ _ _ _ _ (HX13.out.all.read.2.2.mono (fun _ _ => trivial)) HX13.out.all.read.2.1 HC13.out hc10).mono ?_
                rintro e w14 ⟨A14, c14, rfl, hc14, hC14, hb14⟩
                have HB14 := Lib.hid (HB13.out.trans (hb14.mono HB13.out.size))
                have HEq := Lib.hid (equal_steps (ca := c12) (cb := c10) (HA13.out.below hb14) (HC13.out.below hb14))
                have HC14 := Lib.hid hC14
                clear hb14 HX13 HB13 HC13 HA13 hC14
                dsimp only at hc14
                cases made with
                | nil =>
                  go_wp2_with fail
                  refine HEq.out.mono ?_
                  rintro e w15 ⟨rfl, k, rfl⟩
                  have HB15 : Hid (Below w.heap.size w (w14.drewN k)) := Lib.hid (below_drewN HB14.out k)
                  generalize w14.drewN k = w15 at *
                  go_wp2
                  go_meet
                  exact HB15
                | cons m0 mr =>
                  have hlast : (m0 :: mr)[mr.length]'(by simp) = [] := by
                    refine HM3.out _ ?_
                    rw [List.getLast?_eq_getElem?]
                    simp
                  obtain ⟨b9, o9, A9', c9', rfl, hb9, q9, hl9, _⟩ := cls_at HC14.out mr.length (by simp)
                  rw [hlast] at q9
                  have hmr : (m0 :: mr).length = mr.length + 1 := rfl
                  have hml : mr.length ≤ 20000 := by rw [hmr] at m2; omega
                  have wz : IntKind.i64.wrap (((mr.length + 1 : Nat) : Int) - 1) = ((mr.length : Nat) : Int) := by rw [IntKind.wrap_i64]; omega
                  have p1 : (0 : Int) < ((mr.length + 1 : Nat) : Int) := by omega
                  have p2 : ((mr.length : Nat) : Int) < ((mr.length + 1 : Nat) : Int) := by omega
                  have p3 : (0 : Int) ≤ ((mr.length : Nat) : Int) := by omega
                  clear hlast hl9
                  go_wp2_with fail
                  refine HEq.out.mono ?_
                  rintro e w15 ⟨rfl, k, rfl⟩
                  have HB15 : Hid (Below w.heap.size w (w14.drewN k)) := Lib.hid (below_drewN HB14.out k)
                  have q15 : (w14.drewN k).cell? ⟨b9, o9 + mr.length, none⟩ = some (.slice A9' 0 c9') := q9
                  clear q9
                  generalize w14.drewN k = w15 at *
                  go_wp2
                  go_meet
                  exact HB15
          case rest =>
            have HBc := hcut
            clear hcut HLaw Hb q0 q2 hCp8 HB8 hcp hl8
            obtain ⟨R, hR⟩ : ∃ R, replB l p = R := ⟨_, rfl⟩
            have HRp := Lib.hid (fun W A c A' c' (h : C kL Any W A l) (hc : l.length ≤ c) (h' : C kS Any W A' p) (hc' : p.length ≤ c') => replay_calls Any Any A A' c c' l p W h hc h' hc' (by omega) H70.out Hpi.out)
            rw [hR] at HRp
            obtain ⟨m, kk, er⟩ := R
            have HRe := Lib.hid hR
            clear hR
            go_wp2_with fail
            refine (HCl.out _ HBc.out).mono ?_
            rintro e w11 ⟨A11, c11, rfl, hx11⟩
            have HB11 := Lib.hid (HBc.out.trans (hx11.below.mono HBc.out.size))
            have HX11 := Lib.hid (hx11.all.read.2.2.mono (S' := Any) (fun _ _ => trivial))
            have hc11 := hx11.all.read.2.1
            clear hx11 HBc
            go_wp2_with fail
            refine (HSt.out _ HB11.out).mono ?_
            rintro e w12 ⟨A12, c12, rfl, hm12, hb12⟩
            have HB12 := Lib.hid (HB11.out.trans (hb12.mono HB11.out.size))
            have HX12 := Lib.hid (HX11.out.below hb12)
            have HS12 := Lib.hid (hm12.read.2.2.mono (S' := Any) (fun _ _ => trivial))
            have hc12 := hm12.read.2.1
            clear hm12 hb12 HB11 HX11
            go_wp2_with fail
            refine (HRp.out _ _ _ _ _ HX12.out hc11 HS12.out hc12).mono ?_
            rintro e w13 ⟨A13, c13, rfl, hc13, hC13, hb13⟩
            have HB13 := Lib.hid (HB12.out.trans (hb13.mono HB12.out.size))
            have HM13 := Lib.hid hC13
            try dsimp only at hc13
            have hmsz : m.length ≤ 1000000 := by
              have := replB_few l p
              rw [HRe.out] at this
              have e : m.length ≤ p.length := this
              omega
            clear hb13 hC13 HB12 HX12 HS12 HRp
            by_cases her : er = 0
            · have g9 : (er != 0) = false := by rw [her]; rfl
              have HMd : Hid (∀ v, (∀ c ∈ m, rightC c = true) ∧ (holdL v l = true → holdL v m = true)) := Lib.hid (fun v => made_law (by have := HRe.out; rw [her] at this; exact this))
              clear her HRe
              have HV0 : Hid (Mine G.bool w13.heap.size NoB (w13.alloc (.cells #[.bool false] 4)) (.slice (some ⟨w13.heap.size, 0, none⟩) 1 1) [false] ∧ Below w13.heap.size w13 (w13.alloc (.cells #[.bool false] 4))) := Lib.hid ⟨bool_one false, (Below.refl _ _).alloc (Nat.le_refl _) _⟩
              go_upto_region 17 with fail
              go_loopg [18, 19, 125] 12 (fun gg v18 v19 v125 wr => ∃ (i : Nat) (bs : List Bool) (A : Option Addr) (c : Nat), v18 = .slice A (i + 1) c ∧ v125 = .int .i64 i ∧ i ≤ 12 ∧ 12 - i ≤ gg ∧ bs.length = i + 1 ∧ Hid (Mine G.bool w13.heap.size NoB wr (.slice A (i + 1) c) bs ∧ Below w13.heap.size w13 wr))
              case atStart => exact ⟨0, [false], _, 1, rfl, rfl, by omega, by omega, rfl, HV0⟩
              case round =>
                clear HV0
                obtain ⟨i, bs, A, c, rfl, rfl, hi, hg, hbs, HV⟩ := hrel
                by_cases hlt : i < 12
                · have hltz : (i : Int) < 12 := by omega
                  obtain ⟨A', c', v1, hrun, hm, hb1⟩ := bool_push HV.out.1 hbs HV.out.2.size (by omega) (Go.bits BinOp.and IntKind.u16 (val / 2 ^ i) 1 == 1)
                  have HV2 := Lib.hid (And.intro hm (HV.out.2.trans hb1))
                  have Hbs : Hid ((bs ++ [Go.bits BinOp.and IntKind.u16 (val / 2 ^ i) 1 == 1]).length = i + 1 + 1) := Lib.hid (by rw [List.length_append, hbs]; rfl)
                  have HRun := Lib.hid hrun
                  have Hlt := Lib.hid hlt
                  clear hbs hrun hm hb1 HV hlt
                  go_wp2_with (at_builtin; refine G.wpList_append_run rfl _ _ _ rfl _ _ rfl rfl _ _ HRun.out ?_)
                  go_roundg (12 - (i + 1))
                  case measure => have := Hlt.out; omega
                  case rel => exact ⟨i + 1, _, A', c', rfl, by go_num, Hlt.out, Nat.le_refl _, Hbs.out, HV2⟩
                · have hltz : ¬ (i : Int) < 12 := by omega
                  go_upto_region 21 with fail
                  have HBb := Lib.hid (HB13.out.trans (HV.out.2.mono HB13.out.size))
                  have HCb : Hid (C G.bool Any wr A bs) := Lib.hid (HV.out.1.read.2.2.mono (fun _ _ => trivial))
                  have hcb := HV.out.1.read.2.1
                  have HMb := Lib.hid (HM13.out.below (HV.out.2.mono (Nat.le_refl _)))
                  obtain ⟨hMr, hMh⟩ := HMd.out bs
                  have HMr := Lib.hid hMr
                  have HMh := Lib.hid hMh
                  have hml : m.length ≤ 9223372036854775807 := by have := HM13.out.len; unfold maxLen at this; omega
                  have hms := hmsz
                  clear HV hMr hMh HMd hlt HM13 HB13 hltz
                  generalize hk1 : i + 1 = k1 at *
                  clear hk1 hi hg
                  generalize wr = wb at *
                  go_wp2_with fail
                  have HX0 : Hid (RpB wb (.slice none 0 0) (m.take 0) wb) := Lib.hid ⟨by rw [List.take_zero]; exact Mine.nil .., Below.refl _ _⟩
                  go_loopg [20, 22, 139] m.length (fun gg v20 v22 v139 wr => ∃ (j : Nat) (A2 : Option Addr) (c2 : Nat), v20 = .slice A2 j c2 ∧ v139 = .int .i64 j ∧ j ≤ m.length ∧ m.length - j ≤ gg ∧ Hid (RpB wb (.slice A2 j c2) (m.take j) wr))
                  case atStart => exact ⟨0, none, 0, rfl, rfl, by omega, by omega, HX0⟩
                  case round =>
                    clear HX0
                    obtain ⟨j, A2, c2, rfl, rfl, hj, hgj, HX⟩ := hrel
                    by_cases hlt : j < m.length
                    · have hltz : (j : Int) < (m.length : Int) := by omega
                      have hj0 : (0 : Int) ≤ (j : Int) := by omega
                      have Hlt := Lib.hid hlt
                      obtain ⟨b6, o6, A6, c6, rfl, hb6, q6, hl6, hC6⟩ := cls_at (HMb.out.bound.below HX.out.below) j hlt
                      have hCx : C kI (fun k => (k < wb.heap.size ∨ k = wr.heap.size) ∧ k < (wr.alloc (.cells #[.slice A6 (m[j]'hlt).length c6] 44)).heap.size) (wr.alloc (.cells #[.slice A6 (m[j]'hlt).length c6] 44)) A6 (m[j]'hlt) := (hC6.below ((Below.refl _ _).alloc (Nat.le_refl _) _)).bound.mono (fun k hk => ⟨.inl hk.1.2, hk.2⟩)
                      have hall := HX.out.all.below ((Below.refl wr.heap.size wr).alloc (Nat.le_refl _) (.cells #[.slice A6 (m[j]'hlt).length c6] 44))
                      have hbs := HX.out.all
                      have hbz := HX.out.below.size
                      obtain ⟨A', n', c', w', hrun, hn', hm, hgr, ho⟩ := append_own (c := 1) (S := Any) (S' := fun k => (k < wb.heap.size ∨ k = wr.heap.size) ∧ k < (wr.alloc (.cells #[.slice A6 (m[j]'hlt).length c6] 44)).heap.size) Try.underlying22 infoL rfl (by decide) (by decide) hall (one_cls (alloc_new _ _) ⟨.inr rfl, by simp⟩ hl6 hCx)
                        (fun k hk => ⟨trivial, fun e => by have := hbs.base_le e; rcases hk.1 with h | h <;> omega⟩) (by rw [List.length_take]; simp; omega) (by simp; omega)
                      have hbw : Below wb.heap.size wb w' := HX.out.below.trans ((((Below.refl wr.heap.size wr).alloc (Nat.le_refl _) (.cells #[.slice A6 (m[j]'hlt).length c6] 44)).mono hbz).trans ((Chg.grown hgr (fun k e => .inl e) (T := fun k => (Value.slice A2 j c2).ownBlock = some k)).below (by simp; omega) (fun k e => (hbs.base_le e).1)))
                      rw [List.take_append_getElem hlt] at hm hn'
                      rw [List.length_take, Nat.min_eq_left Hlt.out] at hn'
                      subst hn'
                      have HX2 := Lib.hid (RpB.mk hm hbw)
                      have HRun := Lib.hid hrun
                      generalize m[j]'hlt = x at *
                      clear hCx hall hbs hrun hm hgr ho hbw hC6 HX hlt
                      go_wp2_with (at_builtin; refine G.wpList_append_run rfl _ _ _ rfl _ _ rfl rfl _ _ HRun.out ?_)
                      go_roundg (m.length - (j + 1))
                      case measure => have := Hlt.out; omega
                      case rel => exact ⟨j + 1, A', c', rfl, by go_num, Hlt.out, Nat.le_refl _, HX2⟩
                    · have hltz : ¬ (j : Int) < (m.length : Int) := by omega
                      have hje : j = m.length := by omega
                      have HXm : Hid (RpB wb (.slice A2 m.length c2) m wr) := Lib.hid (by have := HX.out; rw [hje, List.take_length] at this; exact this)
                      subst hje
                      have HBr := Lib.hid (HBb.out.trans (HXm.out.below.mono HBb.out.size))
                      have HH1 := Lib.hid (rhold_calls (ca := c1) (cb := c) (HL.out.below HBr.out) (HCb.out.below HXm.out.below) (fun c hc => lit_small ((checkL_ok Hck.out).2 c hc)))
                      rw [hbs] at HH1
                      clear HX hlt
                      cases hb : holdL bs l with
                      | false =>
                        rw [hb] at HH1
                        clear hb
                        go_wp2_with fail
                        refine HH1.out.mono ?_
                        rintro e w15 ⟨rfl, k, rfl⟩
                        have HB15 : Hid (Below w.heap.size w (wr.drewN k)) := Lib.hid (below_drewN HBr.out k)
                        generalize wr.drewN k = w15 at *
                        go_wp2_with fail
                        refine (HAw.out _).mono ?_
                        rintro e w2 ⟨rfl, hb2⟩
                        have HB2 := Lib.hid (HB15.out.trans (hb2.mono HB15.out.size))
                        clear hb2
                        go_wp2
                        go_ret
                        exact ⟨rfl, HB2.out⟩
                      | true =>
                        have hb2 := HMh.out hb
                        rw [hb] at HH1
                        have HH2 : Hid (∀ W, Below wr.heap.size wr W → Calls Try.prog 15 #[.slice A2 m.length c2, .slice A k1 c] W fun e w' => e = .returned (.bool true) ∧ ∃ k, w' = W.drewN k) := Lib.hid (fun W hbW => by
                          have := rhold_calls (ca := c2) (cb := c) ((HXm.out.all.read.2.2.mono (S' := Any) (fun _ _ => trivial)).below hbW) ((HCb.out.below HXm.out.below).below hbW) (fun c hc => lit_small (HMr.out c hc))
                          rw [hb2, hbs] at this
                          exact this)
                        clear hb hb2
                        go_wp2_with fail
                        refine HH1.out.mono ?_
                        rintro e w15 ⟨rfl, k, rfl⟩
                        have hq15 : Below wr.heap.size wr (wr.drewN k) := ⟨rfl, rfl, rfl, Nat.le_refl _, fun _ _ => rfl⟩
                        have HQ15 := Lib.hid hq15
                        clear hq15
                        generalize wr.drewN k = w15 at *
                        go_wp2_with fail
                        refine (HH2.out _ HQ15.out).mono ?_
                        rintro e w16 ⟨rfl, k2, rfl⟩
                        have HB16 : Hid (Below w.heap.size w (w15.drewN k2)) := Lib.hid (below_drewN (HBr.out.trans (HQ15.out.mono HBr.out.size)) k2)
                        generalize w15.drewN k2 = w16 at *
                        go_wp2_with fail
                        refine (HAw.out _).mono ?_
                        rintro e w2 ⟨rfl, hb2⟩
                        have HB2 := Lib.hid (HB16.out.trans (hb2.mono HB16.out.size))
                        clear hb2
                        go_wp2
                        go_ret
                        exact ⟨rfl, HB2.out⟩
            · have g9 : (er != 0) = true := bne_iff_ne.2 her
              clear her HRe
              go_wp2_with fail
              refine (HAw.out _).mono ?_
              rintro e w2 ⟨rfl, hb2⟩
              have HB2 := Lib.hid (HB13.out.trans (hb2.mono HB13.out.size))
              clear hb2
              go_wp2
              go_ret
              exact ⟨rfl, HB2.out⟩
    · have gE : (E != 0) = true := bne_iff_ne.2 hE0
      clear hE0 HE
      go_enter Try.func4, Try.ntmps4
      go_wp2_with fail
      refine HS1.out.mono ?_
      rintro e w1 ⟨rfl, hb1⟩
      have HB1 := Lib.hid hb1
      clear hb1 HS1
      go_wp2_with fail
      refine (HCl.out _ HB1.out).mono ?_
      rintro e w3 ⟨A3, c3, rfl, hx3⟩
      have HB3 := Lib.hid (HB1.out.trans (hx3.below.mono HB1.out.size))
      have HX3 := Lib.hid hx3
      clear hx3
      go_wp2_with fail
      refine (HCk.out _ _ _ HX3.out.all.read.2.2 HX3.out.all.read.2.1).mono ?_
      rintro e w4 ⟨rfl, hb4⟩
      have HB4 := Lib.hid (HB3.out.trans (hb4.mono HB3.out.size))
      clear hb4
      go_wp2_with fail
      refine (HAw.out _).mono ?_
      rintro e w2 ⟨rfl, hb2⟩
      have HB2 := Lib.hid (HB4.out.trans (hb2.mono HB4.out.size))
      clear hb2
      go_wp2
      go_ret
      exact ⟨rfl, HB2.out⟩
end Go.Proofs.Ytggfjfmgclcnlaa.Zb
