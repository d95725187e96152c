/- Walks of the reference of sorts: above, under. -/
import Derived.Test.YthfomoigaoffgaaGreatRf2
import Derived.Laws.Tables
import Derived.Deep.RegionWith
namespace Go.Proofs.YthfomoigaoffgaaGreat.Rf
open Go Go.RowKit Go.Proofs.YthfomoigaoffgaaGreat.K Go.Proofs.YthfomoigaoffgaaGreat.G Go.Proofs.YthfomoigaoffgaaGreat.Ix Go.Proofs.YthfomoigaoffgaaGreat.O Go.Proofs.YthfomoigaoffgaaGreat.So
set_option linter.unusedSimpArgs false
set_option linter.unusedVariables false

theorem put_cell {w : World} {g : Nat} {t : TypeId} {cs : Array Value} (h : w.heap[g]? = some (.cells cs t (0, 0))) (i : Nat) (u : Value) : (w.setCell ⟨g, i, none⟩ u).heap[g]? = some (.cells (cs.setIfInBounds i u) t (0, 0)) := by
  rw [setCell_eq_setRow _ _ _ _ _ _ _ h]
  exact setRow_heap _ _ _ _ _ _ h
def boolsC (l : List Bool) : Array Value := (l.map Value.bool).toArray
theorem boolsC_set (l : List Bool) (i : Nat) (b : Bool) : (boolsC l).setIfInBounds i (.bool b) = boolsC (l.set i b) := by
  unfold boolsC
  rw [List.setIfInBounds_toArray, List.map_set]
theorem boolsC_at (l : List Bool) (i : Nat) (b : Bool) (h : l[i]? = some b) : (boolsC l)[i]? = some (.bool b) := by
  unfold boolsC
  rw [List.getElem?_toArray, List.getElem?_map, h]
  rfl
theorem boolsC_size (l : List Bool) : (boolsC l).size = l.length := by simp [boolsC]
theorem made_bools (n : Nat) : madeCells (Value.bool false).cells n = boolsC (List.replicate n false) := by
  unfold madeCells boolsC
  apply Array.ext'
  rw [Array.toList_map, List.map_replicate, List.eq_replicate_iff]
  refine ⟨by simp, fun b hb => ?_⟩
  obtain ⟨x, _, rfl⟩ := List.mem_map.1 hb
  have e : x % (Value.bool false).cells.size = 0 := Nat.mod_one x
  rw [e]
  rfl
theorem infoBool : (Tryz.prog.info? 4).map (fun i => (i.zero, i.size, i.bytes)) = some (some (.bool false), 1, 1) := by kernel_rfl
theorem make_bools (n : Nat) (h : n ≤ 1000000) (w : World) : (Instr.makeSlice 106 (.int .i64 (n : Int)) (.int .i64 (n : Int))).run Tryz.prog w = .ok (.slice (some ⟨w.heap.size, 0, none⟩) n n) (w.alloc (.cells (boolsC (List.replicate n false)) 4)) := by
  obtain ⟨i0, hi, hz0, hz1, hz2⟩ := info_parts infoBool
  have := run_make (P := Tryz.prog) w 106 4 i0 _ Tryz.underlying106 hi hz0 .i64 .i64 (n : Int) (n : Int) (by omega) (Int.le_refl _) (by rw [hz2]; omega) (by omega)
  rw [hz1, Int.toNat_natCast, Nat.mul_one, made_bools] at this
  exact this
/-- the superclasses of a class, in memory -/
theorem cl_sups {S : Nat → Prop} {w : World} {A : Option Addr} {l : List Cl} (h : C kCl S w A l) (j : Nat) (hj : j < l.length) : ∃ b o A' c, A = some ⟨b, o, none⟩ ∧ b < w.heap.size ∧ w.cell? ⟨b, o + j * 2 + 1, none⟩ = some (.slice A' (l[j]'hj).2.length c) ∧ (l[j]'hj).2.length ≤ c ∧ C str S w A' (l[j]'hj).2 := by
  obtain ⟨b, o, cs, e, _, hb, hK, hc⟩ := h.at_ j hj
  obtain ⟨A', c', rfl, h1, h2⟩ := kCl_open hK
  exact ⟨b, o, A', c', e, hb, hc 1 _ rfl, h1, h2⟩

set_option maxRecDepth 100000 in
set_option maxHeartbeats 1500000 in
theorem above_calls (S : Nat → Prop) (r : Raw) (T : Thy) (w : World) (hT : ThyR S w r T) (hR : Right [] T.cls) (hn : T.cls.length ≤ 1000000) (i : Nat) (hi : i < T.cls.length) :
    Calls Tryz.prog 73 #[thyV r T, .int .i64 i] w fun e w' => e = .returned (.slice (some ⟨w.heap.size + 1, 0, none⟩) T.cls.length T.cls.length) ∧
      w'.heap[w.heap.size + 1]? = some (.cells (boolsC (abR T.cls (i + 1) ((List.replicate T.cls.length false).set i true))) 4 (0, 0)) ∧ Below w.heap.size w w' := by
  have HC := Lib.hid hT.cls
  have HRt := Lib.hid hR
  have HCl := Lib.hid (fun (W : World) (hb : Below w.heap.size w W) nm => Class_calls S r T W (hT.below hb) nm)
  have hlm : T.cls.length ≤ 9223372036854775807 := hT.cls.len
  clear hT hR
  generalize hR : abR T.cls (i + 1) ((List.replicate T.cls.length false).set i true) = R
  have HR := Lib.hid hR
  clear hR
  have hag := Tryz.isAgg29
  have hsz := Tryz.sizeOf29
  obtain ⟨W1, hW1⟩ : ∃ W1, w.alloc (.cells (thyC r T) 29) = W1 := ⟨_, rfl⟩
  have hs1 : W1.heap.size = w.heap.size + 1 := by rw [← hW1]; simp
  have hT1 : W1.heap[w.heap.size]? = some (.cells (thyC r T) 29 (0, 0)) := by rw [← hW1]; exact World.alloc_heap_new w _
  have hb1 : Below w.heap.size w W1 := by rw [← hW1]; exact (Below.refl _ _).alloc (Nat.le_refl _) _
  have hmk := make_bools T.cls.length hn W1
  rw [hs1] at hmk
  obtain ⟨W2, hW2⟩ : ∃ W2, W1.alloc (.cells (boolsC (List.replicate T.cls.length false)) 4) = W2 := ⟨_, rfl⟩
  rw [hW2] at hmk
  have hT2 : W2.heap[w.heap.size]? = some (.cells (thyC r T) 29 (0, 0)) := by rw [← hW2]; exact (Below.heap_alloc _ _ _ (by omega)).trans hT1
  have hG2 : W2.heap[w.heap.size + 1]? = some (.cells (boolsC (List.replicate T.cls.length false)) 4 (0, 0)) := by rw [← hW2, ← hs1]; exact World.alloc_heap_new W1 _
  have hb2 : Below w.heap.size w W2 := by rw [← hW2]; exact hb1.alloc (by omega) _
  have hG3 : (W2.setCell ⟨w.heap.size + 1, i, none⟩ (.bool true)).heap[w.heap.size + 1]? = some (.cells (boolsC ((List.replicate T.cls.length false).set i true)) 4 (0, 0)) := by
    have := put_cell hG2 i (.bool true)
    rwa [boolsC_set] at this
  have c0 : W2.cell? ⟨w.heap.size + 1, i, none⟩ = some (.bool false) := by
    rw [show W2.cell? ⟨w.heap.size + 1, i, none⟩ = (boolsC (List.replicate T.cls.length false))[i]? by simp [World.cell?, hG2]]
    exact boolsC_at _ _ _ (by simp [hi])
  have f0 : W2.frozen? ⟨w.heap.size + 1, i, none⟩ = false := by simp [World.frozen?, hG2]
  obtain ⟨y0, y1, y2, y3, y4, y5, y6⟩ := thy_cells' hT1
  have HG3 := Lib.hid hG3
  have HT3 := Lib.hid (show (W2.setCell ⟨w.heap.size + 1, i, none⟩ (.bool true)).heap[w.heap.size]? = some (.cells (thyC r T) 29 (0, 0)) from (Below.heap_setCell W2 ⟨w.heap.size + 1, i, none⟩ _ _ (by show w.heap.size ≠ w.heap.size + 1; omega)).trans hT2)
  have HB3 := Lib.hid (hb2.setCell (p := ⟨w.heap.size + 1, i, none⟩) (by show w.heap.size ≤ w.heap.size + 1; omega) (.bool true))
  have HL3 := Lib.hid (show ((List.replicate T.cls.length false).set i true).length = T.cls.length by simp)
  have hiz : (0 : Int) ≤ (i : Int) := by omega
  have hiz2 : (i : Int) < (T.cls.length : Int) := by omega
  clear hT1 hT2 hG2 hG3 hb1 hb2 hs1 hW2
  unfold thyV thyC at HCl
  unfold thyV
  unfold thyC at hW1 ⊢
  go_enter Tryz.func73, Tryz.ntmps73
  go_wp2
  clear hW1 hmk y0 y1 y2 y3 y4 y5 y6 c0 f0
  go_loopg [6] (i + 2) (fun gg v6 wr => ∃ (k : Nat) (z : Int) (out : List Bool), v6 = .int .i64 z ∧ Hid (z = (k : Int) - 1) ∧ k ≤ i + 1 ∧ k < gg ∧ Hid (out.length = T.cls.length) ∧ Hid (abR T.cls k out = R) ∧
    Hid (wr.heap[w.heap.size + 1]? = some (.cells (boolsC out) 4 (0, 0))) ∧ Hid (wr.heap[w.heap.size]? = some (.cells (thyC r T) 29 (0, 0))) ∧ Hid (Below w.heap.size w wr))
  case atStart => exact ⟨i + 1, i, _, rfl, Lib.hid (by omega), Nat.le_refl _, by omega, HL3, HR, HG3, HT3, HB3⟩
  case round =>
    clear HL3 HR HG3 HT3 HB3
    obtain ⟨k, z, out, rfl, HZ, hk, hg, HL, HR, HG, HT, HB⟩ := hrel
    by_cases hz0 : 0 ≤ z
    · obtain ⟨q, rfl⟩ : ∃ q : Nat, z = (q : Int) := ⟨z.toNat, by omega⟩
      obtain rfl : k = q + 1 := by have := HZ.out; omega
      have hq : q < T.cls.length := by omega
      have hqz : (q : Int) < (T.cls.length : Int) := by omega
      have Hq := Lib.hid hq
      have hr := HR.out
      rw [abR, List.getElem?_eq_getElem hq] at hr
      have hob : ∃ b, out[q]? = some b := ⟨_, List.getElem?_eq_getElem (by rw [HL.out]; exact hq)⟩
      obtain ⟨ob, hob⟩ := hob
      rw [hob] at hr
      have c1 : wr.cell? ⟨w.heap.size + 1, q, none⟩ = some (.bool ob) := by
        rw [show wr.cell? ⟨w.heap.size + 1, q, none⟩ = (boolsC out)[q]? by simp [World.cell?, HG.out]]
        exact boolsC_at _ _ _ hob
      clear hob HR
      cases ob with
      | false =>
        have HR2 := Lib.hid (show abR T.cls q out = R from hr)
        clear hr
        go_wp2
        go_roundg (q + 1)
        case measure => omega
        case rel => exact ⟨q, (q : Int) - 1, out, rfl, Lib.hid rfl, by omega, Nat.lt_succ_self _, HL, HR2, HG, HT, HB⟩
      | true =>
        have hr2 : abR T.cls q (markS T.cls out (T.cls[q]'hq).2) = R := hr
        have Hsup := Lib.hid (fun s (hs : s ∈ (T.cls[q]'hq).2) => HRt.out.sup q hq s hs)
        have HCq := Lib.hid (fun (W : World) (hb : Below w.heap.size w W) => cl_sups (HC.out.below hb) q hq)
        generalize T.cls[q]'hq = cl at hr2 Hsup HCq
        generalize hM : markS T.cls out cl.2 = M at hr2
        have HR2 := Lib.hid hr2
        have HM := Lib.hid hM
        clear hr hr2 hM
        go_wp2
        clear c1
        obtain ⟨W0, hW0⟩ : ∃ W0, W0 = wr := ⟨_, rfl⟩
        subst hW0
        have hcll : cl.2.length ≤ 9223372036854775807 := by
          obtain ⟨_, _, _, _, _, _, _, _, h⟩ := HCq.out W0 HB.out
          exact h.len
        go_loopg [7] cl.2.length (fun gg v7 wr => ∃ (j : Nat) (out : List Bool), v7 = .int .i64 j ∧ j ≤ cl.2.length ∧ cl.2.length - j ≤ gg ∧ Hid (out.length = T.cls.length) ∧ Hid (markS T.cls out (cl.2.drop j) = M) ∧
          Hid (wr.heap[w.heap.size + 1]? = some (.cells (boolsC out) 4 (0, 0))) ∧ Hid (wr.heap[w.heap.size]? = some (.cells (thyC r T) 29 (0, 0))) ∧ Hid (Below w.heap.size w wr))
        case atStart => exact ⟨0, out, rfl, by omega, by omega, HL, HM, HG, HT, HB⟩
        case round =>
          clear HM HL HG HT HB HZ
          obtain ⟨j, out, rfl, hj, hgj, HL, HM, HG, HT, HB⟩ := hrel
          obtain ⟨x0, x1, x2, x3, x4, x5, x6⟩ := thy_cells' HT.out
          obtain ⟨b, o, As, cp, hA, _, q1, hcp, hCs⟩ := HCq.out wr HB.out
          rw [hA] at x1
          have HA := Lib.hid hA
          by_cases hjl : j < cl.2.length
          · have hjz : (j : Int) < (cl.2.length : Int) := by omega
            have hj0 : (0 : Int) ≤ (j : Int) := by omega
            have Hjl := Lib.hid hjl
            obtain ⟨bs, os, rfl, _, _, hcs⟩ := str_at hCs j hjl
            have hm := HM.out
            rw [List.drop_eq_getElem_cons hjl] at hm
            obtain ⟨p, hp, hpq, hps⟩ : ∃ p, ∃ hp : p < T.cls.length, p < q ∧ (T.cls[p]'hp).1 = cl.2[j]'hjl := by
              rcases Hsup.out _ (List.getElem_mem hjl) with h1 | ⟨p, hp, h1, h2⟩
              · exact absurd h1 List.not_mem_nil
              · exact ⟨p, hp, h1, h2⟩
            have hidx := cidx_at HRt.out hp
            rw [hps] at hidx
            generalize cl.2[j]'hjl = s at hcs hm hidx hps
            have HCx := Lib.hid (fun (W : World) (hb : Below w.heap.size w W) => HCl.out W hb s)
            have hm2 : markS T.cls (out.set (cidx T.cls s).toNat true) (cl.2.drop (j + 1)) = M := hm
            rw [hidx] at HCx hm2
            rw [HA.out] at HCx
            rw [Int.toNat_natCast] at hm2
            have HM2 := Lib.hid hm2
            have HL2 := Lib.hid (show (out.set p true).length = T.cls.length by rw [List.length_set]; exact HL.out)
            have hp0 : (0 : Int) ≤ (p : Int) := by omega
            have hpqz : (p : Int) < (q : Int) := by omega
            have hpz : (p : Int) < (T.cls.length : Int) := by omega
            have Hpl := Lib.hid (show p < out.length by rw [HL.out]; exact hp)
            clear hm hm2 hidx hps HM hA hp
            go_wp2
            go_region_with (go_at_call 71; refine (HCx.out _ (below_drew1 HB.out)).mono ?_; rintro e w6 ⟨rfl, hb6⟩; have hb6 := undrew hb6; have HB6 := Lib.hid (HB.out.trans (hb6.mono HB.out.size)); have HT6 := Lib.hid (box_below HT.out hb6); have HG6 := Lib.hid (box_below HG.out hb6); clear hb6)
            all_goals
              have c2 : w6.cell? ⟨w.heap.size + 1, p, none⟩ = some (.bool (out[p]'Hpl.out)) := by
                rw [show w6.cell? ⟨w.heap.size + 1, p, none⟩ = (boolsC out)[p]? by simp [World.cell?, HG6.out]]
                exact boolsC_at _ _ _ (List.getElem?_eq_getElem Hpl.out)
              have f2 : w6.frozen? ⟨w.heap.size + 1, p, none⟩ = false := by simp [World.frozen?, HG6.out]
              have HG7 := Lib.hid (show (w6.setCell ⟨w.heap.size + 1, p, none⟩ (.bool true)).heap[w.heap.size + 1]? = some (.cells (boolsC (out.set p true)) 4 (0, 0)) by
                have := put_cell HG6.out p (.bool true)
                rwa [boolsC_set] at this)
              have HT7 := Lib.hid (show (w6.setCell ⟨w.heap.size + 1, p, none⟩ (.bool true)).heap[w.heap.size]? = some (.cells (thyC r T) 29 (0, 0)) from (Below.heap_setCell w6 ⟨w.heap.size + 1, p, none⟩ _ _ (by show w.heap.size ≠ w.heap.size + 1; omega)).trans HT6.out)
              have HB7 := Lib.hid (HB6.out.setCell (p := ⟨w.heap.size + 1, p, none⟩) (by show w.heap.size ≤ w.heap.size + 1; omega) (.bool true))
              go_wp2
              go_roundg (cl.2.length - (j + 1))
              case measure => omega
              case rel => exact ⟨j + 1, out.set p true, by go_num, Hjl.out, Nat.le_refl _, HL2, HM2, HG7, HT7, HB7⟩
          · have hjz : ¬ (j : Int) < (cl.2.length : Int) := by omega
            have hm := HM.out
            rw [List.drop_eq_nil_of_le (by omega)] at hm
            obtain rfl : out = M := hm
            clear HM hA
            go_wp2
            go_roundg (q + 1)
            case measure => omega
            case rel => exact ⟨q, (q : Int) - 1, out, rfl, Lib.hid rfl, by omega, Nat.lt_succ_self _, HL, HR2, HG, HT, HB⟩
    · have hz1 : ¬ (z ≥ 0) := hz0
      have hr := HR.out
      obtain rfl : k = 0 := by have := HZ.out; omega
      rw [abR] at hr
      subst hr
      clear HR
      go_wp2
      go_ret
      exact ⟨rfl, HG.out, HB.out⟩
end Go.Proofs.YthfomoigaoffgaaGreat.Rf
