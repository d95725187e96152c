/- Walks of the solver: search. -/
import Derived.Test.YtggfjfmgclcnlaaVe
import Derived.BigQuiet
namespace Go.Proofs.Ytggfjfmgclcnlaa.Zb
open Go Go.RowKit Go.Shelf Go.Proofs.Ytggfjfmgclcnlaa.K Go.Proofs.Ytggfjfmgclcnlaa.G Go.Proofs.Ytggfjfmgclcnlaa.Z
set_option linter.unusedSimpArgs false
set_option linter.unusedVariables false

theorem Sv.nxs {B : Bk} {l : List Cls} {v : List Int} {T : SS} {va vp : Value} {SA : Nat → Prop} {W : World} (h : Sv B l v T va vp SA W) : NxS W B.sp B.gh B.go l v :=
  ⟨h.k1, h.k4, h.k5, h.held.congr (fun j _ => by rw [hdL_get]), h.opn.congr (fun j _ => by rw [opL_get])⟩
theorem Sv.free {B : Bk} {l : List Cls} {v : List Int} {T : SS} {va vp : Value} {SA : Nat → Prop} {W : World} (h : Sv B l v T va vp SA W) (i : Nat) (hi : i < T.all.length) (ha : T.all.length ≤ 1000000) (hr : ∀ c ∈ T.all, rightC c = true) (ho : openN v (T.all.getD i []) ≠ 0) :
    Calls Try.prog 45 #[.pointer (some ⟨B.sp, 0, none⟩), .int .i64 (i : Int)] W fun e w' => e = .returned (.int .i64 (freeB v (T.all.getD i []))) ∧ Below W.heap.size W w' := by
  obtain ⟨A, c, e, hl, hC⟩ := h.all.slice_
  have k0 := h.k0
  rw [e] at k0
  have hf := freeB_spec ho
  rw [getD_at hi] at ho hf ⊢
  exact free_calls B.sp B.gv _ A c T.all v i W hi k0 hC h.k6 ha h.vals (right_iff.1 (hr _ (List.getElem_mem hi))).1 ⟨_, hf.1, hf.2⟩
theorem inv_facts {l : List Cls} {T : SS} (hl : ∀ c ∈ l, rightC c = true) (h5 : l.length ≤ 500) (h : Inv l T) : (∀ c ∈ T.all, rightC c = true) ∧ T.proof.length ≤ 20000 ∧ T.all.length ≤ 30000 ∧ l.length ≤ T.all.length ∧ ∀ i, i < l.length → T.all.getD i [] = l.getD i [] := by
  refine ⟨h.repl.right hl, h.few, ?_, h.repl.pre.length_le, fun i hi => prefix_getD h.repl.pre hi⟩
  have := h.repl.len
  have := h.few
  omega
set_option maxRecDepth 100000 in
set_option maxHeartbeats 4000000 in
theorem search_calls (B : Bk) (hB : B.Ok) (l : List Cls) (hl : ∀ c ∈ l, rightC c = true) (h5 : l.length ≤ 500) (G : Nat) (hG : ∀ c ∈ l, ∀ x ∈ c, x.natAbs ≤ G) : ∀ (k : Nat) (v : List Int) (T : SS) (va vp : Value) (SA : Nat → Prop) (w : World), Sv B l v T va vp SA w → Vok v → freeN G v < k → Inv l T → T.tr = 0 → 0 ≤ T.fuel → T.fuel ≤ 1000000 →
    Calls Try.prog 36 #[.pointer (some ⟨B.sp, 0, none⟩)] w (SrEnd B l (searchB l k v T) va vp SA w)
  | 0, v, T, va, vp, SA, w, _, _, h, _, _, _, _ => by omega
  | k + 1, v, T, va, vp, SA, w, h, hv, hk, hI, ht, hf, hf2 => by
    have HNx := Lib.hid (next_calls B.sp B.gh B.go l v w h.nxs h5)
    have HS := Lib.hid h
    rw [searchB]
    cases hn : nextF v l 0 none with
    | none =>
      rw [hn] at HNx
      have Hkey : Hid (∃ va' vp' SA', Sv B l v T va' vp' SA' w ∧ Tr B va vp SA va' vp' SA' w w) := Lib.hid ⟨va, vp, SA, h, Tr.refl ..⟩
      clear h hn
      unfold SrEnd
      dsimp only
      go_enter Try.func36, Try.ntmps36
      go_wp2_with fail
      refine HNx.out.mono ?_
      rintro e w1 ⟨rfl, j, rfl⟩
      go_wp2
      go_ret2
      exact ⟨rfl, va, vp, SA, HS.out.below ⟨rfl, rfl, rfl, Nat.le_refl _, fun _ _ => rfl⟩, Tr.fresh ⟨rfl, rfl, rfl, Nat.le_refl _, fun _ _ => rfl⟩⟩
    | some io =>
      obtain ⟨i, o⟩ := io
      rw [hn] at HNx
      have HNy : Hid (Calls Try.prog 44 #[.pointer (some ⟨B.sp, 0, none⟩)] w fun e w' => e = .returned (.tuple #[.int .i64 (i : Int), .bool true]) ∧ ∃ k, w' = w.drewN k) := HNx
      clear HNx
      obtain ⟨c, hc, hh, ho⟩ := nextF_some v l l 0 none rfl (fun j o e => by cases e) i o hn
      have hil := (List.getElem?_eq_some_iff.1 hc).1
      have hci : l.getD i [] = c := by rw [List.getD_eq_getElem?_getD, hc]; rfl
      dsimp only
      have hoc := h.opn.cell hil
      rw [opL_get, hci, ho] at hoc
      have HOc := Lib.hid hoc
      have ii1 : (i : Int) < (l.length : Int) := by omega
      have ii0 : (0 : Int) ≤ (i : Int) := by omega
      have Hil := Lib.hid hil
      clear hn hoc
      by_cases h0 : o = 0
      · subst h0
        rw [if_pos rfl]
        clear hc hh hci hil
        have wf : IntKind.i64.wrap (T.fuel - 1) = T.fuel - 1 := by rw [IntKind.wrap_i64]; omega
        by_cases hneg : T.fuel - 1 < 0
        · rw [if_pos ⟨hneg, ht⟩]
          have hdn : decide (T.fuel - 1 < 0) = true := decide_eq_true hneg
          have HT := Lib.hid ht
          clear h hneg ht
          unfold SrEnd
          dsimp only
          go_enter Try.func36, Try.ntmps36
          go_wp2_with fail
          refine HNy.out.mono ?_
          rintro e w1 ⟨rfl, j, rfl⟩
          have hb1 : Below w.heap.size w (w.drewN j) := ⟨rfl, rfl, rfl, Nat.le_refl _, fun _ _ => rfl⟩
          have S1 := HS.out.below hb1
          have q1 := HOc.out
          have q2 : (w.drewN j).cell? ⟨B.go, i, none⟩ = some (.int .i64 0) := q1
          have HB1 := Lib.hid (Tr.fresh (B := B) (va := va) (vp := vp) (SA := SA) hb1)
          generalize w.drewN j = w1 at *
          have k5 := S1.k5
          have k7 := S1.k7
          have f7 := S1.fz 7
          have S2 := S1.setFuel hB (T.fuel - 1)
          have k8 := S2.k8
          rw [show ({ T with fuel := T.fuel - 1 } : SS).tr = 0 from HT.out] at k8
          have k7b := S2.k7
          have f8 := S2.fz 8
          have S3 := Lib.hid (S2.setTr hB 8)
          have HTr := Lib.hid (HB1.out.trans ((Tr.own (va := va) (vp := vp) (SA := SA) (Chg.setCell (T := fun k => k = B.sp) (p := ⟨B.sp, 7, none⟩) rfl (.int .i64 (T.fuel - 1)))).trans (Tr.own (Chg.setCell (T := fun k => k = B.sp) (p := ⟨B.sp, 8, none⟩) rfl (.int .i64 8)))))
          clear S1 S2 hb1 HNy HB1 HOc q1
          go_wp2
          go_ret2
          exact ⟨rfl, va, vp, SA, S3.out, HTr.out⟩
        · rw [if_neg (fun e => hneg e.1)]
          have hdn : decide (T.fuel - 1 < 0) = false := decide_eq_false hneg
          have HT := Lib.hid ht
          clear h hneg ht
          unfold SrEnd
          dsimp only
          go_enter Try.func36, Try.ntmps36
          go_wp2_with fail
          refine HNy.out.mono ?_
          rintro e w1 ⟨rfl, j, rfl⟩
          have hb1 : Below w.heap.size w (w.drewN j) := ⟨rfl, rfl, rfl, Nat.le_refl _, fun _ _ => rfl⟩
          have S1 := HS.out.below hb1
          have q1 := HOc.out
          have q2 : (w.drewN j).cell? ⟨B.go, i, none⟩ = some (.int .i64 0) := q1
          have HB1 := Lib.hid (Tr.fresh (B := B) (va := va) (vp := vp) (SA := SA) hb1)
          generalize w.drewN j = w1 at *
          have k5 := S1.k5
          have k7 := S1.k7
          have f7 := S1.fz 7
          have S2 := S1.setFuel hB (T.fuel - 1)
          have k7b := S2.k7
          have S3 := Lib.hid S2
          have HTr := Lib.hid (HB1.out.trans (Tr.own (va := va) (vp := vp) (SA := SA) (Chg.setCell (T := fun k => k = B.sp) (p := ⟨B.sp, 7, none⟩) rfl (.int .i64 (T.fuel - 1)))))
          clear S1 S2 hb1 HNy HB1 HOc q1
          go_wp2
          go_ret2
          exact ⟨rfl, va, vp, SA, S3.out, HTr.out⟩
      · rw [if_neg h0]
        obtain ⟨hrT, hp20, ha30, hla, hpre⟩ := inv_facts hl h5 hI
        have hTi : T.all.getD i [] = c := (hpre i hil).trans hci
        have hio : openN v (T.all.getD i []) ≠ 0 := by rw [hTi, ho]; exact h0
        have hx := freeB_spec hio
        rw [hTi] at hx
        have hcm := List.mem_of_getElem? hc
        have HFr := Lib.hid (fun W (hb : Below w.heap.size w W) => (h.below hb).free i (by omega) (by omega) hrT hio)
        rw [hTi] at HFr
        rw [hci]
        obtain ⟨x, hxe⟩ : ∃ x, freeB v c = x := ⟨_, rfl⟩
        rw [hxe] at HFr hx ⊢
        have hxl : Z.Lit x := (right_iff.1 (hl c hcm)).1 x hx.1
        have x0 : x ≠ 0 := hxl.1
        have x60 : x.natAbs ≤ 60 := by have := hxl.2; omega
        have xG := hG c hcm x hx.1
        have fr1 := freeN_set hv x0 (G := G) xG x60 hx.2
        have P1 := search_spec hl hG k (setV v x) T (hv.set x0) (by omega) hI ht hf
        have F1 := search_fuel l k (setV v x) T
        have HC1 := Lib.hid (fun va vp SA W hW => search_calls B hB l hl h5 G hG k (setV v x) T va vp SA W hW (hv.set x0) (by omega) hI ht hf hf2)
        obtain ⟨r1, hr1⟩ : ∃ r1, searchB l k (setV v x) T = r1 := ⟨_, rfl⟩
        rw [hr1] at P1 HC1 F1 ⊢
        have HT1 := Lib.hid (fun W (hW : Sv B l v T va vp SA W) => try_calls B hB l v T va vp SA x r1 W hW hv hxl hx.2 h5 hl (fun W' hW' => HC1.out va vp SA W' hW') (fun e => (P1.no e).1))
        have hxn : Z.Lit (-x) := ⟨by omega, by have := hxl.2; omega, by have := hxl.2; omega⟩
        have hxn0 : lv v (-x) = 0 := by rw [lv_neg v x0, hx.2]; rfl
        have fr2 := freeN_set hv hxn.1 (G := G) (by omega) (by omega) hxn0
        have wn : IntKind.i64.wrap (-x) = -x := by have := hxl.2; rw [IntKind.wrap_i64]; omega
        obtain ⟨hr1a, hp1, ha1, hla1, hpre1⟩ := inv_facts hl h5 P1.inv
        have HB9 := Lib.hid h
        have ho0 : ((o : Int) == 0) = false := beq_eq_false_iff_ne.2 (by omega)
        have HC2 := Lib.hid (fun (S : SS) (va vp : Value) (SA : Nat → Prop) (W : World) hW hI2 ht2 hf3 hf4 => search_calls B hB l hl h5 G hG k (setV v (-x)) S va vp SA W hW (hv.set hxn.1) (by omega) hI2 ht2 hf3 hf4)
        have HP2 := Lib.hid (fun (S : SS) hI2 ht2 hf3 => search_spec hl hG k (setV v (-x)) S (hv.set hxn.1) (by omega) hI2 ht2 hf3)
        obtain ⟨R, hR⟩ : ∃ R, thenB l (searchB l k) i o x v r1 = R := ⟨_, rfl⟩
        rw [hR]
        unfold thenB at hR
        have HR := Lib.hid hR
        have HP1 := Lib.hid P1
        have Hv := Lib.hid hv
        have HF1 : Hid (r1.s.fuel ≤ 1000000) := Lib.hid (by omega)
        have HX := Lib.hid (And.intro hxl (And.intro hxn hxn0))
        have HA1 := Lib.hid (And.intro hr1a (And.intro hp1 ha1))
        have HILA : Hid (i < l.length ∧ l.length ≤ r1.s.all.length) := Lib.hid ⟨hil, hla1⟩
        clear hc hh hci hil hTi hio hpre h hr1 hcm hR P1 hv fr1 fr2 hr1a hp1 ha1 hla1 hpre1 hrT hp20 ha30 hla xG x60 hxe F1 hx hxn hxn0 HC1
        obtain ⟨a1, fd1, v1, s1⟩ := r1
        dsimp only at *
        go_enter Try.func36, Try.ntmps36
        go_wp2_with fail
        refine HNy.out.mono ?_
        rintro e w1 ⟨rfl, j, rfl⟩
        have hb1 : Below w.heap.size w (w.drewN j) := ⟨rfl, rfl, rfl, Nat.le_refl _, fun _ _ => rfl⟩
        have q2 : (w.drewN j).cell? ⟨B.go, i, none⟩ = some (.int .i64 (o : Int)) := HOc.out
        have k5 : (w.drewN j).cell? ⟨B.sp, 5, none⟩ = some (.slice (some ⟨B.go, 0, none⟩) l.length l.length) := HB9.out.k5
        have hsl := HB9.out.sp_lt
        have hgl := HB9.out.opn.lt
        have HK : Hid (∀ W, Below w.heap.size w W → W.cell? ⟨B.sp, 5, none⟩ = some (.slice (some ⟨B.go, 0, none⟩) l.length l.length) ∧ W.cell? ⟨B.go, i, none⟩ = some (.int .i64 (o : Int))) := Lib.hid (fun W hb => ⟨(hb.cell (p := ⟨B.sp, 5, none⟩) hsl).trans HB9.out.k5, (hb.cell (p := ⟨B.go, i, none⟩) hgl).trans HOc.out⟩)
        have HB1 := Lib.hid hb1
        generalize w.drewN j = w1 at *
        clear HNy HOc hsl hgl hb1
        go_upto_region 9 with fail
        have hs0 : Below w1.heap.size w1 w1.drew := Chg.below1 w1
        go_region_held3 (fun W' => W'.cell? ⟨B.sp, 5, none⟩ = some (.slice (some ⟨B.go, 0, none⟩) l.length l.length) ∧ W'.cell? ⟨B.go, i, none⟩ = some (.int .i64 (o : Int))) (go_keep)
          (first
            | (go_at_call 45
               (with_reducible refine (HFr.out _ ?_).mono ?_)
               (exact HB1.out.trans (hs0.mono HB1.out.size))
               rintro e w9 ⟨rfl, hb9⟩
               have hs9 := HB1.out.trans ((hs0.trans hb9).mono HB1.out.size)
               clear k5 q2
               obtain ⟨k5, q2⟩ := HK.out _ hs9))
        all_goals
          have HT9 := Lib.hid (Tr.fresh (B := B) (va := va) (vp := vp) (SA := SA) hs9)
          have HS9 := Lib.hid (HB9.out.below hs9)
          clear k5 q2 hs9 hb9 hs0 HK HB1 HFr
          go_wp2_with fail
          refine (HT1.out _ HS9.out).mono ?_
          rintro e w10 ⟨rfl, va1, vp1, SA1, hS1, hT1⟩
          have HT10 := Lib.hid (HT9.out.trans hT1)
          have HS10 := Lib.hid hS1
          clear hT1 hS1 HT1 HS9 HT9
          cases fd1 with
          | true =>
            have hR := HR.out
            rw [if_pos rfl] at hR
            subst hR
            clear HR HC2 HP2 HP1
            go_wp2
            go_ret2
            exact ⟨rfl, va1, vp1, SA1, HS10.out, HT10.out⟩
          | false =>
            have hR := HR.out
            rw [if_neg (by decide)] at hR
            have HR := Lib.hid hR
            clear hR
            have k8 := HS10.out.k8
            by_cases ht1 : s1.tr = 0
            · have h81 : (s1.tr != 0) = false := by rw [ht1]; rfl
              obtain ⟨b1, b2⟩ := (HP1.out.no rfl).2 ht1
              dsimp only at b1
              obtain ⟨g1, o1, c1, A1, cp1, e1, hc1, hg1, q1, hl1, hC1⟩ := HS10.out.cls a1 b1
              have rr := HA1.out.1
              have L1 := right_len (show rightC (s1.all.getD a1 []) = true by rw [getD_at b1]; exact rr _ (List.getElem_mem b1))
              have HH := Lib.hid (has_calls (-x) hC1 hl1 (Nat.le_trans L1 (by decide)))
              have k0 := HS10.out.k0
              rw [e1] at k0
              have ai1 : (a1 : Int) < (s1.all.length : Int) := by omega
              have ai0 : (0 : Int) ≤ (a1 : Int) := by omega
              obtain ⟨ca, hca⟩ : ∃ ca, s1.all.getD a1 [] = ca := ⟨_, rfl⟩
              rw [hca] at q1 L1 HH
              have hcl : ca.length ≤ 9223372036854775807 := by omega
              have B1 := Lib.hid b1
              have Ht1 := Lib.hid ht1
              by_cases m1 : -x ∈ ca
              · have hR := HR.out
                rw [hca, if_neg (by rintro (h | h); exact h ht1; exact h m1)] at hR
                have HR := Lib.hid hR
                rw [decide_eq_true m1] at HH
                clear hR hca m1 ht1 b1 b2 hC1 hl1 rr L1
                go_wp2_with fail
                refine HH.out.mono ?_
                rintro e w11 ⟨rfl, hb11⟩
                have HT11 := Lib.hid (HT10.out.trans (Tr.fresh hb11))
                have HS11 := Lib.hid (HS10.out.below hb11)
                clear hb11 k0 q1 k8 HH e1 HS10 HT10
                by_cases h1 : o = 1
                · have ho1 : ((o : Int) == 1) = true := by rw [h1]; rfl
                  have hR := HR.out
                  rw [if_pos h1] at hR
                  subst hR
                  clear h1 HR HC2 HP2
                  go_wp2_with fail
                  refine (resolve_calls B hB l v s1 va1 vp1 SA1 x i a1 w11 HS11.out HX.out.1 (by have := HILA.out; omega) B1.out HA1.out.1 HA1.out.2.1 HA1.out.2.2).mono ?_
                  rintro e w12 ⟨rfl, va2, vp2, SA2, hS2, hT2⟩
                  have HS2 := Lib.hid hS2
                  have HT2 := Lib.hid (HT11.out.trans hT2)
                  clear hS2 hT2
                  go_wp2
                  go_ret2
                  exact ⟨rfl, va2, vp2, SA2, HS2.out, HT2.out⟩
                · have ho1 : ((o : Int) == 1) = false := beq_eq_false_iff_ne.2 (by omega)
                  have hR := HR.out
                  rw [if_neg h1] at hR
                  have hf1 := HP1.out.ok Ht1.out
                  dsimp only at hf1
                  have P2 := HP2.out s1 HP1.out.inv Ht1.out hf1
                  have HC2' := Lib.hid (fun va vp SA W hW => HC2.out s1 va vp SA W hW HP1.out.inv Ht1.out hf1 HF1.out)
                  obtain ⟨r2, hr2⟩ : ∃ r2, searchB l k (setV v (-x)) s1 = r2 := ⟨_, rfl⟩
                  rw [hr2] at P2 HC2' hR
                  have HTr2 := Lib.hid (try_calls B hB l v s1 va1 vp1 SA1 (-x) r2 w11 HS11.out Hv.out HX.out.2.1 HX.out.2.2 h5 hl (fun W' hW' => HC2'.out va1 vp1 SA1 W' hW') (fun e => (P2.no e).1))
                  obtain ⟨a2, fd2, v2, s2⟩ := r2
                  dsimp only at *
                  have HR := Lib.hid hR
                  have HP2' := Lib.hid P2
                  clear h1 hR P2 HC2 HP2 HC2' hr2 hf1
                  go_wp2_with fail
                  refine HTr2.out.mono ?_
                  rintro e w12 ⟨rfl, va2, vp2, SA2, hS2, hT2⟩
                  have HS12 := Lib.hid hS2
                  have HT12 := Lib.hid (HT11.out.trans hT2)
                  clear hS2 hT2 HS11 HT11 HTr2
                  cases fd2 with
                  | true =>
                    have hR := HR.out
                    rw [if_pos rfl] at hR
                    subst hR
                    clear HR HP2'
                    go_wp2
                    go_ret2
                    exact ⟨rfl, va2, vp2, SA2, HS12.out, HT12.out⟩
                  | false =>
                    have hR := HR.out
                    rw [if_neg (by decide)] at hR
                    have k8 := HS12.out.k8
                    by_cases ht2 : s2.tr = 0
                    · have h82 : (s2.tr != 0) = false := by rw [ht2]; rfl
                      rw [if_neg (fun e => e ht2)] at hR
                      subst hR
                      obtain ⟨d1, d2⟩ := (HP2'.out.no rfl).2 ht2
                      dsimp only at d1
                      obtain ⟨hr2a, hp2, ha2, hla2, _⟩ := inv_facts hl h5 HP2'.out.inv
                      have b12 : a1 < s2.all.length := Nat.lt_of_lt_of_le B1.out HP2'.out.ext.length_le
                      have HRs := Lib.hid (resolve_calls B hB l v s2 va2 vp2 SA2 x a2 a1 w12 HS12.out HX.out.1 d1 b12 hr2a hp2 ha2)
                      clear ht2 d1 d2 hr2a hp2 ha2 hla2 b12 HR HP2'
                      go_wp2_with fail
                      refine HRs.out.mono ?_
                      rintro e w13 ⟨rfl, va3, vp3, SA3, hS3, hT3⟩
                      have HS3 := Lib.hid hS3
                      have HT3 := Lib.hid (HT12.out.trans hT3)
                      clear hS3 hT3 HRs k8
                      go_wp2
                      go_ret2
                      exact ⟨rfl, va3, vp3, SA3, HS3.out, HT3.out⟩
                    · have h82 : (s2.tr != 0) = true := bne_iff_ne.2 ht2
                      rw [if_pos ht2] at hR
                      subst hR
                      clear ht2 HR HP2'
                      go_wp2
                      go_ret2
                      exact ⟨rfl, va2, vp2, SA2, HS12.out, HT12.out⟩
              · have hR := HR.out
                rw [hca, if_pos (.inr m1)] at hR
                subst hR
                rw [decide_eq_false m1] at HH
                clear HR hca m1 ht1 b1 b2 hC1 hl1 rr L1 HC2 HP2
                go_wp2_with fail
                refine HH.out.mono ?_
                rintro e w11 ⟨rfl, hb11⟩
                have HT11 := Lib.hid (HT10.out.trans (Tr.fresh hb11))
                have HS11 := Lib.hid (HS10.out.below hb11)
                clear hb11 k0 q1 k8 HH e1
                go_wp2
                go_ret2
                exact ⟨rfl, va1, vp1, SA1, HS11.out, HT11.out⟩
            · have h81 : (s1.tr != 0) = true := bne_iff_ne.2 ht1
              have hR := HR.out
              rw [if_pos (.inl ht1)] at hR
              subst hR
              clear HR HC2 HP2 HP1 ht1
              go_wp2
              go_ret2
              exact ⟨rfl, va1, vp1, SA1, HS10.out, HT10.out⟩
end Go.Proofs.Ytggfjfmgclcnlaa.Zb
