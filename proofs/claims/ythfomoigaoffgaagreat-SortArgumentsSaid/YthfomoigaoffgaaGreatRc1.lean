/- Walks of the reference's Check: Type, arity, constructors. -/
import Derived.Test.YthfomoigaoffgaaGreatAr1
import Derived.Test.YthfomoigaoffgaaGreatOb
import Derived.Test.YthfomoigaoffgaaGreatRf4
namespace Go.Proofs.YthfomoigaoffgaaGreat.Rc
open Go Go.RowKit Go.Proofs.YthfomoigaoffgaaGreat.K Go.Proofs.YthfomoigaoffgaaGreat.G Go.Proofs.YthfomoigaoffgaaGreat.Ix Go.Proofs.YthfomoigaoffgaaGreat.O Go.Proofs.YthfomoigaoffgaaGreat.So Go.Proofs.YthfomoigaoffgaaGreat.Rf Go.Proofs.YthfomoigaoffgaaGreat.Ch
set_option linter.unusedSimpArgs false
set_option linter.unusedVariables false

set_option maxHeartbeats 2000000 in
theorem Type_calls (S : Nat → Prop) (r : Raw) (T : Thy) (w : World) (hT : ThyR S w r T) (nm : ByteArray) :
    Calls Tryz.prog 25 #[thyV r T, .string nm] w fun e w' => e = .returned (.int .i64 (tidx T.tys nm)) ∧ Below w.heap.size w w' := by
  have HC := Lib.hid hT.tys
  have hlm : T.tys.length ≤ 9223372036854775807 := hT.tys.len
  clear hT
  generalize hR : tidx T.tys nm = R
  have HR := Lib.hid (show idxP (fun d : Td => d.1 == nm) (T.tys.drop 0) 0 = R from hR)
  clear hR
  obtain ⟨W1, hW1⟩ : ∃ W1, w.alloc (.cells (thyC r T) 29) = W1 := ⟨_, rfl⟩
  have HB := Lib.hid (show Below w.heap.size w W1 by rw [← hW1]; exact (Below.refl _ _).alloc (Nat.le_refl _) _)
  obtain ⟨_, _, z2, _⟩ := thy_cells' (show W1.heap[w.heap.size]? = some (.cells (thyC r T) 29 (0, 0)) by rw [← hW1]; exact World.alloc_heap_new w _)
  unfold thyV thyC
  unfold thyC at hW1
  go_enter Tryz.func25, Tryz.ntmps25
  go_wp2
  clear hW1
  go_loopg [5] T.tys.length (fun gg v5 wr => ∃ k : Nat, v5 = .int .i64 k ∧ k ≤ T.tys.length ∧ T.tys.length - k ≤ gg ∧ Hid (idxP (fun d : Td => d.1 == nm) (T.tys.drop k) k = R) ∧ W1 = wr)
  case atStart => exact ⟨0, rfl, by omega, by omega, HR, rfl⟩
  case round =>
    clear HR
    obtain ⟨k, rfl, hk, hg, HR, rfl⟩ := hrel
    by_cases hlt : k < T.tys.length
    · have hltz : (k : Int) < (T.tys.length : Int) := by omega
      have Hlt := Lib.hid hlt
      obtain ⟨b, o, hA, _, q0, _⟩ := td_at (HC.out.below HB.out) k hlt
      rw [hA] at z2
      have hr := HR.out
      rw [idxP_drop _ _ _ hlt] at hr
      generalize T.tys[k]'hlt = x at q0 hr
      have hse := str_eq x.1 nm
      cases hq : (x.1 == nm) with
      | true =>
        rw [hq, if_pos rfl] at hr
        rw [hq] at hse
        subst hr
        clear hq HR hA
        go_wp2
        go_ret
        exact ⟨rfl, HB.out⟩
      | false =>
        rw [hq, if_neg (by decide)] at hr
        rw [hq] at hse
        have HR2 := Lib.hid hr
        have HA := Lib.hid hA
        clear hq HR hr hA
        go_wp2
        go_roundg (T.tys.length - (k + 1))
        case measure => omega
        case rel => exact ⟨k + 1, by go_num, Hlt.out, Nat.le_refl _, HR2, rfl⟩
    · have hltz : ¬ (k : Int) < (T.tys.length : Int) := by omega
      have hr := HR.out
      rw [List.drop_eq_nil_of_le (by omega)] at hr
      obtain rfl : (-1 : Int) = R := hr
      clear HR
      go_wp2
      go_ret
      exact ⟨rfl, HB.out⟩

theorem ar_keys {S : Nat → Prop} {w : World} {A : Option Addr} {l : List Arx} (h : C kAr S w A l) (j : Nat) (hj : j < l.length) : ∃ b o A' c', A = some ⟨b, o, none⟩ ∧ b < w.heap.size ∧ w.cell? ⟨b, o + j * 3, none⟩ = some (.string (l[j]'hj).1) ∧ w.cell? ⟨b, o + j * 3 + 1, none⟩ = some (.string (l[j]'hj).2.1) ∧
    w.cell? ⟨b, o + j * 3 + 2, none⟩ = some (.slice A' (l[j]'hj).2.2.length c') ∧ (l[j]'hj).2.2.length ≤ c' ∧ C (slice str) S w A' (l[j]'hj).2.2 := by
  obtain ⟨b, o, cs, e, _, hb, hK, hc⟩ := h.at_ j hj
  obtain ⟨A', c', rfl, h1, h2⟩ := kAr_open hK
  exact ⟨b, o, A', c', e, hb, hc 0 _ rfl, hc 1 _ rfl, hc 2 _ rfl, h1, h2⟩

set_option maxRecDepth 100000 in
set_option maxHeartbeats 2000000 in
theorem arity_calls (S : Nat → Prop) (r : Raw) (T : Thy) (w : World) (hT : ThyR S w r T) (t c : ByteArray) :
    Calls Tryz.prog 52 #[thyV r T, .string t, .string c] w fun e w' => e = .returned (.int .i64 (aidx T.ars t c)) ∧ Below w.heap.size w w' := by
  have HC := Lib.hid (show C kAr S w r.a3 T.ars from hT.ars)
  have hlm : T.ars.length ≤ 9223372036854775807 := hT.ars.len
  clear hT
  generalize hR : aidx T.ars t c = R
  have HR := Lib.hid (show idxP (fun a : Arx => a.1 == t && a.2.1 == c) (T.ars.drop 0) 0 = R from hR)
  clear hR
  obtain ⟨W1, hW1⟩ : ∃ W1, w.alloc (.cells (thyC r T) 29) = W1 := ⟨_, rfl⟩
  have HB := Lib.hid (show Below w.heap.size w W1 by rw [← hW1]; exact (Below.refl _ _).alloc (Nat.le_refl _) _)
  obtain ⟨_, _, _, z3, _⟩ := thy_cells' (show W1.heap[w.heap.size]? = some (.cells (thyC r T) 29 (0, 0)) by rw [← hW1]; exact World.alloc_heap_new w _)
  unfold thyV thyC
  unfold thyC at hW1
  go_enter Tryz.func52, Tryz.ntmps52
  go_wp2
  clear hW1
  go_loopg [7] T.ars.length (fun gg v5 wr => ∃ k : Nat, v5 = .int .i64 k ∧ k ≤ T.ars.length ∧ T.ars.length - k ≤ gg ∧ Hid (idxP (fun a : Arx => a.1 == t && a.2.1 == c) (T.ars.drop k) k = R) ∧ W1 = wr)
  case atStart => exact ⟨0, rfl, by omega, by omega, HR, rfl⟩
  case round =>
    clear HR
    obtain ⟨k, rfl, hk, hg, HR, rfl⟩ := hrel
    by_cases hlt : k < T.ars.length
    · have hltz : (k : Int) < (T.ars.length : Int) := by omega
      have Hlt := Lib.hid hlt
      obtain ⟨b, o, _, _, hA, _, q0, q1, _⟩ := ar_keys (HC.out.below HB.out) k hlt
      rw [hA] at z3
      have hr := HR.out
      rw [idxP_drop _ _ _ hlt] at hr
      generalize T.ars[k]'hlt = x at q0 q1 hr
      have hse := str_eq x.1 t
      have hse2 := str_eq x.2.1 c
      cases hq : (x.1 == t) with
      | true =>
        rw [hq, Bool.true_and] at hr
        rw [hq] at hse
        cases hq2 : (x.2.1 == c) with
        | true =>
          rw [hq2, if_pos rfl] at hr
          rw [hq2] at hse2
          subst hr
          clear hq hq2 HR hA
          go_wp2
          go_ret
          exact ⟨rfl, HB.out⟩
        | false =>
          rw [hq2, if_neg (by decide)] at hr
          rw [hq2] at hse2
          have HR2 := Lib.hid hr
          have HA := Lib.hid hA
          clear hq hq2 HR hr hA
          go_wp2
          go_roundg (T.ars.length - (k + 1))
          case measure => omega
          case rel => exact ⟨k + 1, by go_num, Hlt.out, Nat.le_refl _, HR2, rfl⟩
      | false =>
        rw [hq, Bool.false_and, if_neg (by decide)] at hr
        rw [hq] at hse
        have HR2 := Lib.hid hr
        have HA := Lib.hid hA
        clear hq HR hr hA hse2
        go_wp2
        go_roundg (T.ars.length - (k + 1))
        case measure => omega
        case rel => exact ⟨k + 1, by go_num, Hlt.out, Nat.le_refl _, HR2, rfl⟩
    · have hltz : ¬ (k : Int) < (T.ars.length : Int) := by omega
      have hr := HR.out
      rw [List.drop_eq_nil_of_le (by omega)] at hr
      obtain rfl : (-1 : Int) = R := hr
      clear HR
      go_wp2
      go_ret
      exact ⟨rfl, HB.out⟩

set_option maxRecDepth 100000 in
set_option maxHeartbeats 4000000 in
theorem constructors_calls (S : Nat → Prop) (r : Raw) (T : Thy) (w : World) (hT : ThyR S w r T) (hsm : ∀ d ∈ T.tys, d.1.size ≤ maxLen) :
    Calls Tryz.prog 48 #[thyV r T] w fun e w' => e = .returned (.int .i64 (constrE T.tys)) ∧ Below w.heap.size w w' := by
  obtain ⟨nm, a1, c1, a2, c2, a3, c3, a4, n4, c4, a5, n5, c5, a6, n6, c6⟩ := r
  have HC := Lib.hid (show C kTd S w a2 T.tys from hT.tys)
  have HSM := Lib.hid hsm
  have HN := Lib.hid (fun s w hs => Rf.IsName_calls s w hs)
  have HTy := Lib.hid (fun (W : World) (hb : Below w.heap.size w W) nm => Type_calls S _ T W (hT.below hb) nm)
  have hlm : T.tys.length ≤ 9223372036854775807 := hT.tys.len
  clear hT hsm
  unfold constrE
  obtain ⟨W1, hW1⟩ : ∃ W1, w.alloc (.cells (thyC ⟨nm, a1, c1, a2, c2, a3, c3, a4, n4, c4, a5, n5, c5, a6, n6, c6⟩ T) 29) = W1 := ⟨_, rfl⟩
  have HB1 := Lib.hid (show Below w.heap.size w W1 by rw [← hW1]; exact (Below.refl _ _).alloc (Nat.le_refl _) _)
  have hT1 : W1.heap[w.heap.size]? = some (.cells (thyC ⟨nm, a1, c1, a2, c2, a3, c3, a4, n4, c4, a5, n5, c5, a6, n6, c6⟩ T) 29 (0, 0)) := by rw [← hW1]; exact World.alloc_heap_new w _
  obtain ⟨y0, y1, y2, y3, y4, y5, y6⟩ := thy_cells' hT1
  have HT1 := Lib.hid hT1
  clear hT1
  dsimp only at y0 y1 y2 y3 y4 y5 y6
  have hag := Tryz.isAgg29
  have hsz := Tryz.sizeOf29
  unfold thyV thyC at HTy
  unfold thyV
  unfold thyC at hW1 ⊢
  dsimp only at HTy hW1 ⊢
  by_cases h300 : 300 < T.tys.length
  · rw [if_pos h300]
    have g : (300 : Int) < (T.tys.length : Int) := by omega
    go_enter Tryz.func48, Tryz.ntmps48
    go_wp2
    go_ret
    exact ⟨rfl, HB1.out⟩
  · rw [if_neg h300]
    have g : ¬ (300 : Int) < (T.tys.length : Int) := by omega
    generalize hE : ctE [] T.tys = E
    have HE := Lib.hid hE
    clear hE
    go_enter Tryz.func48, Tryz.ntmps48
    go_wp2
    clear hW1 y0 y1 y2 y3 y4 y5 y6
    go_loopg [3] T.tys.length (fun gg v wr => ∃ k : Nat, v = .int .i64 k ∧ k ≤ T.tys.length ∧ T.tys.length - k ≤ gg ∧ Hid (ctE ((T.tys.take k).map (·.1)) (T.tys.drop k) = E) ∧ Hid (Below w.heap.size w wr) ∧ Hid (wr.heap[w.heap.size]? = some (.cells (thyC ⟨nm, a1, c1, a2, c2, a3, c3, a4, n4, c4, a5, n5, c5, a6, n6, c6⟩ T) 29 (0, 0))))
    case atStart => exact ⟨0, rfl, by omega, by omega, by simpa using HE, HB1, HT1⟩
    case round =>
      clear HE HB1 HT1
      obtain ⟨k, rfl, hk, hg, HE, HB, HTB⟩ := hrel
      by_cases hlt : k < T.tys.length
      · have hltz : (k : Int) < (T.tys.length : Int) := by omega
        have Hlt := Lib.hid hlt
        have Htk := Lib.hid (tys_take T.tys k hlt)
        have Hdup := Lib.hid (tidx_dup T.tys k hlt)
        have hE := HE.out
        rw [List.drop_eq_getElem_cons hlt, ctE] at hE
        obtain ⟨b, o, rfl, hbw, qw0, qw1⟩ := td_at HC.out k hlt
        have hnm := HSM.out _ (List.getElem_mem hlt)
        have q0 := (HB.out.cell (p := ⟨b, o + k * 2, none⟩) hbw).trans qw0
        obtain ⟨z0, z1, z2, z3, z4, z5, z6⟩ := thy_cells' HTB.out
        dsimp only at z0 z1 z2 z3 z4 z5 z6
        generalize T.tys[k]'hlt = d at hE qw0 qw1 q0 hnm Htk Hdup
        obtain ⟨dn, da⟩ := d
        dsimp only at hE qw0 qw1 q0 hnm Htk Hdup
        have HNC := Lib.hid (fun w => HN.out dn w hnm)
        have HQ0 := Lib.hid qw0
        have HQ1 := Lib.hid qw1
        have Hbw := Lib.hid hbw
        clear qw0 qw1 hbw HE
        cases hb1 : nameB dn with
        | false =>
          rw [hb1] at hE HNC
          obtain rfl : (30 : Int) = E := hE
          clear hb1
          go_wp2_with fail
          refine (HNC.out _).mono ?_
          rintro e w3 ⟨rfl, hb⟩
          have HB3 := Lib.hid (HB.out.trans (hb.mono HB.out.size))
          clear hb
          go_wp2
          go_ret
          exact ⟨rfl, HB3.out⟩
        | true =>
          rw [hb1, if_pos rfl] at hE
          rw [hb1] at HNC
          have HE := Lib.hid hE
          clear hb1 hE
          go_wp2_with fail
          refine (HNC.out _).mono ?_
          rintro e w3 ⟨rfl, hb⟩
          have HB3 := Lib.hid (HB.out.trans (hb.mono HB.out.size))
          have HTB3 := Lib.hid (box_below HTB.out hb)
          clear hb z0 z1 z2 z3 z4 z5 z6 q0
          obtain ⟨z0, z1, z2, z3, z4, z5, z6⟩ := thy_cells' HTB3.out
          dsimp only at z0 z1 z2 z3 z4 z5 z6
          have q0 := (HB3.out.cell (p := ⟨b, o + k * 2, none⟩) Hbw.out).trans HQ0.out
          have hE := HE.out
          have hdup := Hdup.out
          have HT1 := Lib.hid (fun (W : World) (hb : Below w.heap.size w W) => HTy.out W hb dn)
          have HCe := Lib.hid (fun (W : World) (hb : Below w3.heap.size w3 W) => (hb.cell (p := ⟨b, o + k * 2 + 1, none⟩) (Nat.lt_of_lt_of_le Hbw.out HB3.out.size)).trans ((HB3.out.cell (p := ⟨b, o + k * 2 + 1, none⟩) Hbw.out).trans HQ1.out))
          have HCz := Lib.hid (fun (W : World) (hb : Below w3.heap.size w3 W) => (thy_cells' (box_below HTB3.out hb)).2.2.1)
          dsimp only at HCz
          generalize tidx T.tys dn = ti at HT1 hdup
          cases hct : ((T.tys.take k).map (·.1)).contains dn with
          | true =>
            rw [hct, if_pos rfl] at hE
            obtain rfl : (10 : Int) = E := hE
            have htz : (ti != (k : Int)) = true := by rw [hct] at hdup; simpa [bne] using hdup.symm
            clear hct hdup HE
            go_wp2
            go_region_with (go_at_call 25; refine (HT1.out _ (below_drew1 HB3.out)).mono ?_; rintro e w4 ⟨rfl, hb4⟩; have hb4 := undrew hb4; have HB4 := Lib.hid (HB3.out.trans (hb4.mono HB3.out.size)); have y2 := HCz.out _ hb4; clear hb4)
            all_goals
              go_wp2
              go_ret
              exact ⟨rfl, HB4.out⟩
          | false =>
            rw [hct, if_neg (by decide)] at hE
            have htz : (ti != (k : Int)) = false := by rw [hct] at hdup; simpa [bne] using hdup.symm
            have HTB4 := Lib.hid (fun (W : World) (hb : Below w3.heap.size w3 W) => box_below HTB3.out hb)
            clear hct hdup HE
            by_cases hn : da < 0
            · rw [if_pos (.inl hn)] at hE
              obtain rfl : (4 : Int) = E := hE
              go_wp2
              go_region_with (go_at_call 25; refine (HT1.out _ (below_drew1 HB3.out)).mono ?_; rintro e w4 ⟨rfl, hb4⟩; have hb4 := undrew hb4; have HB4 := Lib.hid (HB3.out.trans (hb4.mono HB3.out.size)); have y2 := HCz.out _ hb4; have y3 := HCe.out _ hb4; clear hb4)
              all_goals
                go_wp2
                go_ret
                exact ⟨rfl, HB4.out⟩
            · by_cases ht : 10 < da
              · rw [if_pos (.inr ht)] at hE
                obtain rfl : (4 : Int) = E := hE
                go_wp2
                go_region_with (go_at_call 25; refine (HT1.out _ (below_drew1 HB3.out)).mono ?_; rintro e w4 ⟨rfl, hb4⟩; have hb4 := undrew hb4; have HB4 := Lib.hid (HB3.out.trans (hb4.mono HB3.out.size)); have y2 := HCz.out _ hb4; have y3 := HCe.out _ hb4; clear hb4)
                all_goals
                  go_wp2
                  go_ret
                  exact ⟨rfl, HB4.out⟩
              · rw [if_neg (fun h => h.elim hn ht), ← Htk.out] at hE
                have HE2 := Lib.hid hE
                clear hE
                go_wp2
                go_region_with (go_at_call 25; refine (HT1.out _ (below_drew1 HB3.out)).mono ?_; rintro e w4 ⟨rfl, hb4⟩; have hb4 := undrew hb4; have HB4 := Lib.hid (HB3.out.trans (hb4.mono HB3.out.size)); have y2 := HCz.out _ hb4; have y3 := HCe.out _ hb4; have HTB4' := Lib.hid (HTB4.out _ hb4); clear hb4)
                all_goals
                  go_wp2
                  go_roundg (T.tys.length - (k + 1))
                  case measure => omega
                  case rel => exact ⟨k + 1, by go_num, Hlt.out, Nat.le_refl _, HE2, HB4, HTB4'⟩
      · have hltz : ¬ (k : Int) < (T.tys.length : Int) := by omega
        have hE := HE.out
        rw [List.drop_eq_nil_of_le (by omega), ctE] at hE
        obtain rfl : (0 : Int) = E := hE
        obtain ⟨z0, z1, z2, z3, z4, z5, z6⟩ := thy_cells' HTB.out
        clear HE
        go_wp2
        go_ret
        exact ⟨rfl, HB.out⟩
end Go.Proofs.YthfomoigaoffgaaGreat.Rc
