/- Walks of the reference of sorts: known, the error of the classes. -/
import Derived.Test.YthfomoigaoffgaaGreatRf1
namespace Go.Proofs.YthfomoigaoffgaaGreat.Rf
open Go Go.RowKit Go.Proofs.YthfomoigaoffgaaGreat.K Go.Proofs.YthfomoigaoffgaaGreat.G Go.Proofs.YthfomoigaoffgaaGreat.Ix Go.Proofs.YthfomoigaoffgaaGreat.O Go.Proofs.YthfomoigaoffgaaGreat.So
set_option linter.unusedSimpArgs false
set_option linter.unusedVariables false

theorem undrew {w w' : World} (h : Below w.drew.heap.size w.drew w') : Below w.heap.size w w' := ⟨h.os, h.tape, h.output, h.size, h.block⟩
theorem below_drew1 {n : Nat} {w w' : World} (h : Below n w w') : Below n w w'.drew := ⟨h.os, h.tape, h.output, h.size, h.block⟩
theorem box_below {w w' : World} {g : Nat} {o : Obj} (h : w.heap[g]? = some o) (hb : Below w.heap.size w w') : w'.heap[g]? = some o := (hb.block g (Array.getElem?_eq_some_iff.1 h).1).trans h

set_option maxRecDepth 100000 in
set_option maxHeartbeats 4000000 in
theorem known_calls (S Sa : Nat → Prop) (r : Raw) (T : Thy) (A : Option Addr) (c : Nat) (s : List ByteArray) (w : World) (hT : ThyR S w r T) (hC : C str Sa w A s) :
    Calls Tryz.prog 51 #[thyV r T, .slice A s.length c] w fun e w' => e = .returned (.bool (knownB T.cls s)) ∧ Below w.heap.size w w' := by
  have HCl := Lib.hid (fun (W : World) (hb : Below w.heap.size w W) nm => Class_calls S r T W (hT.below hb) nm)
  have HC := Lib.hid hC
  have hlm : s.length ≤ 9223372036854775807 := hC.len
  have HAll := Lib.hid (fun nm => cidx_has T.cls nm)
  clear hC hT
  generalize hR : knownB T.cls s = R
  have HR := Lib.hid hR
  clear hR
  obtain ⟨W1, hW1⟩ : ∃ W1, w.alloc (.cells (thyC r T) 29) = W1 := ⟨_, rfl⟩
  have HB1 := Lib.hid (show Below w.heap.size w W1 by rw [← hW1]; exact (Below.refl _ _).alloc (Nat.le_refl _) _)
  have HT1 := Lib.hid (show W1.heap[w.heap.size]? = some (.cells (thyC r T) 29 (0, 0)) by rw [← hW1]; exact World.alloc_heap_new w _)
  unfold thyV
  unfold thyC at hW1 ⊢
  have hag := Tryz.isAgg29
  have hsz := Tryz.sizeOf29
  go_enter Tryz.func51, Tryz.ntmps51
  go_wp2
  clear hW1
  go_loopg [5] s.length (fun gg v5 wr => ∃ k : Nat, v5 = .int .i64 k ∧ k ≤ s.length ∧ s.length - k ≤ gg ∧ Hid (knownB T.cls (s.drop k) = R) ∧ Hid (Below w.heap.size w wr) ∧ Hid (wr.heap[w.heap.size]? = some (.cells (thyC r T) 29 (0, 0))))
  case atStart => exact ⟨0, rfl, by omega, by omega, HR, HB1, HT1⟩
  case round =>
    clear HR HB1 HT1
    obtain ⟨k, rfl, hk, hg, HR, HB, HTB⟩ := hrel
    by_cases hlt : k < s.length
    · have hltz : (k : Int) < (s.length : Int) := by omega
      have Hlt := Lib.hid hlt
      have hk0 : (0 : Int) ≤ (k : Int) := by omega
      obtain ⟨b, o, rfl, _, _, q0⟩ := str_at (HC.out.below HB.out) k hlt
      obtain ⟨x0, x1, x2, x3, x4, x5, x6⟩ := thy_cells' HTB.out
      have hr := HR.out
      rw [List.drop_eq_getElem_cons hlt] at hr
      unfold knownB at hr
      rw [List.all_cons] at hr
      generalize s[k]'hlt = x at q0 hr
      have ha := HAll.out x
      have HCx := Lib.hid (fun (W : World) (hb : Below w.heap.size w W) => HCl.out W hb x)
      unfold thyV thyC at HCx
      generalize cidx T.cls x = ci at ha HCx
      rw [← ha] at hr
      by_cases hci : 0 ≤ ci
      · rw [decide_eq_true hci, Bool.true_and] at hr
        have hcz : ¬ ci < 0 := by omega
        have HR2 := Lib.hid (show knownB T.cls (s.drop (k + 1)) = R from hr)
        clear hr HR ha
        go_wp2
        go_region_with (go_at_call 71; refine (HCx.out _ (below_drew1 HB.out)).mono ?_; rintro e w2 ⟨rfl, hb2⟩; have hb2 := undrew hb2; have HB2 := Lib.hid (HB.out.trans (hb2.mono HB.out.size)); have HTB2 := Lib.hid (box_below HTB.out hb2); clear hb2)
        all_goals
          go_wp2
          go_roundg (s.length - (k + 1))
          case measure => omega
          case rel => exact ⟨k + 1, by go_num, Hlt.out, Nat.le_refl _, HR2, HB2, HTB2⟩
      · rw [decide_eq_false hci, Bool.false_and] at hr
        subst hr
        have hcz : ci < 0 := by omega
        clear HR ha
        go_wp2
        go_region_with (go_at_call 71; refine (HCx.out _ (below_drew1 HB.out)).mono ?_; rintro e w2 ⟨rfl, hb2⟩; have hb2 := undrew hb2; have HB2 := Lib.hid (HB.out.trans (hb2.mono HB.out.size)); clear hb2)
        all_goals
          go_wp2
          go_ret
          exact ⟨rfl, HB2.out⟩
    · have hltz : ¬ (k : Int) < (s.length : Int) := by omega
      have hr := HR.out
      rw [List.drop_eq_nil_of_le (by omega)] at hr
      obtain rfl : true = R := hr
      clear HR
      go_wp2
      go_ret
      exact ⟨rfl, HB.out⟩

set_option maxRecDepth 100000 in
set_option maxHeartbeats 8000000 in
theorem classes_calls (S : Nat → Prop) (r : Raw) (T : Thy) (w : World) (hT : ThyR S w r T) :
    Calls Tryz.prog 47 #[thyV r T] w fun e w' => e = .returned (.int .i64 (classesE T.cls)) ∧ Below w.heap.size w w' := by
  have HC := Lib.hid hT.cls
  have HSM := Lib.hid hT.small
  have HN := Lib.hid (fun s w hs => IsName_calls s w hs)
  have HCl := Lib.hid (fun (W : World) (hb : Below w.heap.size w W) nm => Class_calls S r T W (hT.below hb) nm)
  have hlm : T.cls.length ≤ 9223372036854775807 := hT.cls.len
  clear hT
  unfold classesE
  obtain ⟨W1, hW1⟩ : ∃ W1, w.alloc (.cells (thyC r T) 29) = W1 := ⟨_, rfl⟩
  have HB1 := Lib.hid (show Below w.heap.size w W1 by rw [← hW1]; exact (Below.refl _ _).alloc (Nat.le_refl _) _)
  have hT1 : W1.heap[w.heap.size]? = some (.cells (thyC r T) 29 (0, 0)) := by rw [← hW1]; exact World.alloc_heap_new w _
  obtain ⟨y0, y1, y2, y3, y4, y5, y6⟩ := thy_cells' hT1
  have HT1 := Lib.hid hT1
  clear hT1
  have hag := Tryz.isAgg29
  have hsz := Tryz.sizeOf29
  unfold thyV thyC at HCl
  unfold thyV
  unfold thyC at hW1 ⊢
  by_cases h300 : 300 < T.cls.length
  · rw [if_pos h300]
    have g : (300 : Int) < (T.cls.length : Int) := by omega
    go_enter Tryz.func47, Tryz.ntmps47
    go_wp2
    go_ret
    exact ⟨rfl, HB1.out⟩
  · rw [if_neg h300]
    have g : ¬ (300 : Int) < (T.cls.length : Int) := by omega
    generalize hE : clsE [] T.cls = E
    have HE := Lib.hid hE
    clear hE
    go_enter Tryz.func47, Tryz.ntmps47
    go_wp2
    clear hW1 y0 y1 y2 y3 y4 y5 y6
    go_loopg [3] T.cls.length (fun gg v wr => ∃ k : Nat, v = .int .i64 k ∧ k ≤ T.cls.length ∧ T.cls.length - k ≤ gg ∧ Hid (clsE ((T.cls.take k).map (·.1)) (T.cls.drop k) = E) ∧ Hid (Below w.heap.size w wr) ∧ Hid (wr.heap[w.heap.size]? = some (.cells (thyC r T) 29 (0, 0))))
    case atStart => exact ⟨0, rfl, by omega, by omega, by simpa using HE, HB1, HT1⟩
    case round =>
      clear HE HB1 HT1
      obtain ⟨k, rfl, hk, hg, HE, HB, HTB⟩ := hrel
      obtain ⟨x0, x1, x2, x3, x4, x5, x6⟩ := thy_cells' HTB.out
      by_cases hlt : k < T.cls.length
      · have hltz : (k : Int) < (T.cls.length : Int) := by omega
        have Hlt := Lib.hid hlt
        have Htk := Lib.hid (names_take T.cls k hlt)
        have Hdup := Lib.hid (cidx_dup T.cls k hlt)
        have HMet := Lib.hid (fun a => cidx_met T.cls a k)
        have hE := HE.out
        rw [List.drop_eq_getElem_cons hlt, clsE] at hE
        obtain ⟨b, o, cs, hA, _, hbl, hKc, hcc⟩ := (HC.out.below HB.out).at_ k hlt
        rw [hA] at x1
        obtain ⟨As, cp, rfl, hlc, hCs⟩ := kCl_open hKc
        have hsm := HSM.out _ (List.getElem_mem hlt)
        have hc0 := hcc 0 _ rfl
        have hc1 := hcc 1 _ rfl
        have hksz : kCl.sz = 2 := rfl
        rw [hksz] at hc0 hc1
        rw [Nat.add_zero] at hc0
        have hnm := hsm.1
        have HSS := Lib.hid hsm.2
        have HCs := Lib.hid hCs
        have hclm : (T.cls[k]'hlt).2.length ≤ 9223372036854775807 := hCs.len
        have HAA := Lib.hid hA
        generalize T.cls[k]'hlt = cl at hE hc0 hc1 hnm HSS HCs hlc Htk hclm Hdup
        have HNC := Lib.hid (fun w => HN.out cl.1 w hnm)
        generalize hR : T.cls.drop (k + 1) = rest at hE
        have HR := Lib.hid hR
        clear hKc hcc hCs hsm hksz hR HE hA
        cases hb1 : nameB cl.1 with
        | false =>
          rw [hb1] at hE HNC
          obtain rfl : (30 : Int) = E := hE
          clear hb1
          go_wp2_with fail
          refine (HNC.out _).mono ?_
          rintro e w3 ⟨rfl, hb⟩
          have HB3 := Lib.hid (show Below w.heap.size w w3 from (HB.out.alloc HB.out.size _).trans (hb.mono (by have := HB.out.size; simp; omega)))
          clear hb
          go_wp2
          go_ret
          exact ⟨rfl, HB3.out⟩
        | true =>
          rw [hb1, if_pos rfl] at hE
          rw [hb1] at HNC
          have HE := Lib.hid hE
          clear hb1 hE
          go_wp2_with fail
          refine (HNC.out _).mono ?_
          rintro e w3 ⟨rfl, hb⟩
          have HBX := Lib.hid (show w3.heap[wr.heap.size]? = some (.cells #[.string cl.1, .slice As cl.2.length cp] 48 (0, 0)) from (hb.block _ (by simp)).trans (World.alloc_heap_new wr _))
          have hb0 : w3.cell? ⟨wr.heap.size, 0, none⟩ = some (.string cl.1) := by simp [World.cell?, HBX.out]
          have hBr : Below wr.heap.size wr w3 := ((Below.refl _ wr).alloc (Nat.le_refl _) _).trans (hb.mono (by simp))
          have HB3 := Lib.hid (HB.out.trans (hBr.mono HB.out.size))
          have HTB3 := Lib.hid (box_below HTB.out hBr)
          have HCs3 := Lib.hid (HCs.out.below hBr)
          clear hb hBr x0 x1 x2 x3 x4 x5 x6 hc0 hc1
          obtain ⟨z0, z1, z2, z3, z4, z5, z6⟩ := thy_cells' HTB3.out
          have HC1 := Lib.hid (HCl.out _ HB3.out cl.1)
          have hE := HE.out
          have hdup := Hdup.out
          generalize cidx T.cls cl.1 = ci at HC1 hdup
          cases hct : ((T.cls.take k).map (·.1)).contains cl.1 with
          | true =>
            rw [hct, if_pos rfl] at hE
            obtain rfl : (10 : Int) = E := hE
            have hcz : (ci != (k : Int)) = true := by rw [hct] at hdup; simpa [bne] using hdup.symm
            clear hct hdup
            go_wp2_with fail
            refine HC1.out.mono ?_
            rintro e w4 ⟨rfl, hb⟩
            have HB4 := Lib.hid (HB3.out.trans (hb.mono HB3.out.size))
            clear hb
            go_wp2
            go_ret
            exact ⟨rfl, HB4.out⟩
          | false =>
            rw [hct, if_neg (by decide)] at hE
            have hcz : (ci != (k : Int)) = false := by rw [hct] at hdup; simpa [bne] using hdup.symm
            have HE := Lib.hid hE
            clear hct hdup hE
            go_wp2_with fail
            refine HC1.out.mono ?_
            rintro e w4 ⟨rfl, hb⟩
            have HB4 := Lib.hid (HB3.out.trans (hb.mono HB3.out.size))
            have HTB4 := Lib.hid (box_below HTB3.out hb)
            have HBX4 := Lib.hid (box_below HBX.out hb)
            have HCs4 := Lib.hid (HCs3.out.below hb)
            have hb1 : w4.cell? ⟨wr.heap.size, 1, none⟩ = some (.slice As cl.2.length cp) := by simp [World.cell?, HBX4.out]
            clear hb z0 z1 z2 z3 z4 z5 z6 hb0 HC1 HB3 HTB3 HBX HCs3
            have hE := HE.out
            by_cases h20 : 20 < cl.2.length
            · rw [if_pos h20] at hE
              have g20 : (20 : Int) < (cl.2.length : Int) := by omega
              obtain rfl : (5 : Int) = E := hE
              clear HE
              go_wp2
              go_ret
              exact ⟨rfl, HB4.out⟩
            · rw [if_neg h20] at hE
              have g20 : ¬ (20 : Int) < (cl.2.length : Int) := by omega
              generalize hX : supE ((T.cls.take k).map (·.1)) none cl.2 = X at hE
              have HE := Lib.hid hE
              have HX := Lib.hid hX
              clear hE hX h20
              go_wp2
              clear hb1
              obtain ⟨W0, hW0⟩ : ∃ W0, W0 = wr := ⟨_, rfl⟩
              subst hW0
              go_loopg [5] cl.2.length (fun gg v wr => ∃ j : Nat, v = .int .i64 j ∧ j ≤ cl.2.length ∧ cl.2.length - j ≤ gg ∧ Hid (supE ((T.cls.take k).map (·.1)) (prevB cl.2 j) (cl.2.drop j) = X) ∧ Hid (Below w4.heap.size w4 wr))
              case atStart => exact ⟨0, rfl, by omega, by omega, HX, Lib.hid (Below.refl _ _)⟩
              case round =>
                clear HX
                obtain ⟨j, rfl, hj, hg3, HX, HBj⟩ := hrel
                have HB5 := Lib.hid (HB4.out.trans (HBj.out.mono HB4.out.size))
                have HBX5 := Lib.hid (box_below HBX4.out HBj.out)
                have v1 : wr.cell? ⟨W0.heap.size, 1, none⟩ = some (.slice As cl.2.length cp) := by simp [World.cell?, HBX5.out]
                by_cases hjl : j < cl.2.length
                · have hjz : (j : Int) < (cl.2.length : Int) := by omega
                  have hj0' : (0 : Int) ≤ (j : Int) := by omega
                  have Hjl := Lib.hid hjl
                  obtain ⟨bs, os, hAs, _, _, hcs⟩ := str_at (HCs4.out.below HBj.out) j hjl
                  rw [hAs] at v1
                  have hx := HX.out
                  rw [List.drop_eq_getElem_cons hjl, supE, HMet.out] at hx
                  have Hpv : Hid (prevB cl.2 (j + 1) = some (cl.2[j]'hjl)) := Lib.hid (List.getElem?_eq_getElem hjl)
                  obtain ⟨u0, u1, u2, u3, u4, u5, u6⟩ := thy_cells' (box_below HTB4.out HBj.out)
                  have HAs := Lib.hid hAs
                  generalize cl.2[j]'hjl = sx at hcs hx Hpv
                  have HCx := Lib.hid (fun (W : World) (hb : Below w.heap.size w W) => HCl.out W hb sx)
                  generalize cidx T.cls sx = ci at HCx hx
                  clear hAs
                  by_cases hci : 0 ≤ ci ∧ ci < (k : Int)
                  · obtain ⟨hci0, hcik⟩ := hci
                    rw [decide_eq_true hci0, decide_eq_true hcik, if_pos (by rfl)] at hx
                    have n1 : ¬ ci < 0 := by omega
                    have n2 : ¬ (k : Int) ≤ ci := by omega
                    by_cases hj0 : j = 0
                    · subst hj0
                      rw [if_neg (by simp [prevB, outB]), ← Hpv.out] at hx
                      have HX2 := Lib.hid hx
                      clear hx HX
                      have hg0 : ¬ ((0 : Nat) : Int) > 0 := by omega
                      have hg00 : decide ((0 : Int) < ((0 : Nat) : Int)) = false := by simp
                      have hcs0 : wr.cell? ⟨bs, os, none⟩ = some (.string sx) := hcs
                      clear hcs
                      go_wp2
                      go_region_with (go_at_call 71; refine (HCx.out _ (below_drew1 HB5.out)).mono ?_; rintro e w6 ⟨rfl, hb6⟩; have hb6 := undrew hb6; have HBj6 := Lib.hid (HBj.out.trans (hb6.mono HBj.out.size)); clear hb6)
                      all_goals
                        go_wp2
                        go_quiet (fail)
                        go_wp2
                        go_roundg (cl.2.length - (0 + 1))
                        case measure => omega
                        case rel => exact ⟨0 + 1, by go_num, Hjl.out, Nat.le_refl _, HX2, Lib.hid (below_drewN HBj6.out _)⟩
                    · obtain ⟨q, rfl⟩ : ∃ q, j = q + 1 := ⟨j - 1, by omega⟩
                      have hq : q < cl.2.length := by omega
                      obtain ⟨bs2, os2, hbb, _, _, hcq⟩ := str_at (HCs4.out.below HBj.out) q hq
                      rw [HAs.out] at hbb
                      injection hbb with hbb
                      injection hbb with e1 e2 _
                      subst e1; subst e2
                      have hpq : prevB cl.2 (q + 1) = some (cl.2[q]'hq) := List.getElem?_eq_getElem hq
                      rw [hpq] at hx
                      have HLT := Lib.hid (str_lt (cl.2[q]'hq) sx)
                      generalize cl.2[q]'hq = sq at hcq hx HLT
                      have hgq : (0 : Int) < ((q + 1 : Nat) : Int) := by omega
                      have hgq' : decide ((0 : Int) < ((q + 1 : Nat) : Int)) = true := decide_eq_true hgq
                      have hqs : ((q + 1 : Nat) : Int) - 1 = (q : Int) := by omega
                      have hqz : (q : Int) < (cl.2.length : Int) := by omega
                      have hq0 : (0 : Int) ≤ (q : Int) := by omega
                      have hcl1 := lt_of_cell hcs
                      have hcl2 := lt_of_cell v1
                      have HBv := Lib.hid (fun (W : World) (hb : Below wr.heap.size wr W) => And.intro ((hb.cell (p := ⟨bs, os + (q + 1), none⟩) hcl1).trans hcs) (And.intro ((hb.cell (p := ⟨bs, os + q, none⟩) hcl1).trans hcq) ((hb.cell (p := ⟨W0.heap.size, 1, none⟩) hcl2).trans v1)))
                      rw [show outB (some sq) sx = !less sq sx from rfl] at hx
                      cases hls : less sq sx with
                      | true =>
                        rw [hls, if_neg (by decide), ← Hpv.out] at hx
                        have HX2 := Lib.hid hx
                        have hl2 : Op.bytesLess sq.toList sx.toList = true := HLT.out.trans hls
                        clear hx hls hpq hj0 HX
                        go_wp2
                        go_region_with (go_at_call 71; refine (HCx.out _ (below_drew1 HB5.out)).mono ?_; rintro e w6 ⟨rfl, hb6⟩; have hb6 := undrew hb6; have HBj6 := Lib.hid (HBj.out.trans (hb6.mono HBj.out.size)); obtain ⟨s1, s2, s3⟩ := HBv.out _ hb6; clear hb6)
                        all_goals
                          go_wp2
                          go_quiet (fail)
                          go_wp2
                          go_roundg (cl.2.length - (q + 1 + 1))
                          case measure => omega
                          case rel => exact ⟨q + 1 + 1, by go_num, Hjl.out, Nat.le_refl _, HX2, Lib.hid (below_drewN HBj6.out _)⟩
                      | false =>
                        rw [hls, if_pos (by decide)] at hx
                        have hl2 : Op.bytesLess sq.toList sx.toList = false := HLT.out.trans hls
                        obtain rfl : (17 : Int) = X := hx
                        obtain rfl : (17 : Int) = E := HE.out
                        clear hls hpq hj0 HX HE
                        go_wp2
                        go_region_with (go_at_call 71; refine (HCx.out _ (below_drew1 HB5.out)).mono ?_; rintro e w6 ⟨rfl, hb6⟩; have hb6 := undrew hb6; have HBj6 := Lib.hid (HB5.out.trans (hb6.mono HB5.out.size)); obtain ⟨s1, s2, s3⟩ := HBv.out _ hb6; clear hb6)
                        all_goals
                          go_wp2
                          go_quiet (fail)
                          go_wp2
                          go_ret
                          exact ⟨rfl, below_drewN HBj6.out _⟩
                  · rw [if_neg (by
                      intro h
                      rw [Bool.and_eq_true, decide_eq_true_eq, decide_eq_true_eq] at h
                      exact hci h)] at hx
                    obtain rfl : (9 : Int) = X := hx
                    obtain rfl : (9 : Int) = E := HE.out
                    clear HX HE
                    by_cases hci0 : ci < 0
                    · go_wp2
                      go_region_with (go_at_call 71; refine (HCx.out _ (below_drew1 HB5.out)).mono ?_; rintro e w6 ⟨rfl, hb6⟩; have hb6 := undrew hb6; have HBj6 := Lib.hid (HB5.out.trans (hb6.mono HB5.out.size)); clear hb6)
                      all_goals
                        go_wp2
                        go_ret
                        exact ⟨rfl, HBj6.out⟩
                    · have hcik : (k : Int) ≤ ci := by omega
                      clear hci
                      go_wp2
                      go_region_with (go_at_call 71; refine (HCx.out _ (below_drew1 HB5.out)).mono ?_; rintro e w6 ⟨rfl, hb6⟩; have hb6 := undrew hb6; have HBj6 := Lib.hid (HB5.out.trans (hb6.mono HB5.out.size)); clear hb6)
                      all_goals
                        go_wp2
                        go_ret
                        exact ⟨rfl, HBj6.out⟩
                · have hjz : ¬ (j : Int) < (cl.2.length : Int) := by omega
                  have hx := HX.out
                  rw [List.drop_eq_nil_of_le (by omega), supE] at hx
                  obtain rfl : (0 : Int) = X := hx
                  have hE := HE.out
                  rw [if_neg (by decide), ← Htk.out, ← HR.out] at hE
                  have HE2 := Lib.hid hE
                  have HTB5 := Lib.hid (box_below HTB4.out HBj.out)
                  clear hE HE HX
                  go_wp2
                  go_roundg (T.cls.length - (k + 1))
                  case measure => omega
                  case rel => exact ⟨k + 1, by go_num, Hlt.out, Nat.le_refl _, HE2, HB5, HTB5⟩
      · have hltz : ¬ (k : Int) < (T.cls.length : Int) := by omega
        have hE := HE.out
        rw [List.drop_eq_nil_of_le (by omega), clsE] at hE
        obtain rfl : (0 : Int) = E := hE
        clear HE
        go_wp2
        go_ret
        exact ⟨rfl, HB.out⟩
end Go.Proofs.YthfomoigaoffgaaGreat.Rf
