/- Walks of sort: the error of the classes. -/
import Derived.Test.YthfomoigaoffgaaGreatSo4
import Derived.Test.YthfomoigaoffgaaGreatSo2
import Derived.WalkLawsBesides
namespace Go.Proofs.YthfomoigaoffgaaGreat.So
open Go Go.RowKit Go.Proofs.YthfomoigaoffgaaGreat.K Go.Proofs.YthfomoigaoffgaaGreat.G Go.Proofs.YthfomoigaoffgaaGreat.Ix Go.Proofs.YthfomoigaoffgaaGreat.O
set_option linter.unusedSimpArgs false
set_option linter.unusedVariables false

def prevB (ss : List ByteArray) : Nat → Option ByteArray
  | 0 => none
  | j + 1 => ss[j]?
theorem names_take (cs : List Cl) (k : Nat) (h : k < cs.length) : (cs.take (k + 1)).map (·.1) = (cs.take k).map (·.1) ++ [(cs[k]'h).1] := by
  rw [List.take_succ_eq_append_getElem h, List.map_append]; rfl

set_option maxRecDepth 100000 in
set_option maxHeartbeats 4000000 in
theorem classes_calls (S : Nat → Prop) (r : Raw) (T : Thy) (w : World) (hT : ThyR S w r T) : Calls Tryz.prog 32 #[thyV r T] w fun e w' => e = .returned (.int .i64 (classesE T.cls)) ∧ Below w.heap.size w w' := by
  have hmm := @run_makeMap Tryz.prog
  have HC := Lib.hid hT.cls
  have HSM := Lib.hid hT.small
  have HN := Lib.hid (fun s w hs => IsName_calls s w hs)
  have hcl := hT.cls.len
  have hlm : T.cls.length ≤ 9223372036854775807 := hcl
  clear hT hcl
  unfold classesE thyV thyC
  generalize r.a1 = A1 at HC ⊢
  by_cases h300 : 300 < T.cls.length
  · rw [if_pos h300]
    have g : (300 : Int) < (T.cls.length : Int) := by omega
    go_enter Tryz.func32, Tryz.ntmps32
    go_wp2
    go_ret
    exact ⟨rfl, (Below.refl _ _).alloc (Nat.le_refl _) _⟩
  · rw [if_neg h300]
    have g : ¬ (300 : Int) < (T.cls.length : Int) := by omega
    generalize hE : clsE [] T.cls = E
    have HE := Lib.hid hE
    clear hE
    go_enter Tryz.func32, Tryz.ntmps32
    go_wp2
    go_loopg [16] T.cls.length (fun gg v wr => ∃ k : Nat, v = .int .i64 k ∧ k ≤ T.cls.length ∧ T.cls.length - k ≤ gg ∧ Hid (clsE ((T.cls.take k).map (·.1)) (T.cls.drop k) = E) ∧
      Hid (KwSet wr (w.heap.size + 1) k (anyB ((T.cls.take k).map (·.1)))) ∧ Hid (Below w.heap.size w wr) ∧ w.heap.size + 1 < wr.heap.size)
    case atStart => exact ⟨0, rfl, by omega, by omega, by simpa using HE, by
      have := KwSet.made (w.alloc (.cells #[.string r.nm, .slice A1 T.cls.length r.c1, .slice r.a2 T.tys.length r.c2, .slice r.a3 T.ars.length r.c3, .slice r.a4 r.n4 r.c4, .slice r.a5 r.n5 r.c5, .slice r.a6 r.n6 r.c6] 29))
      rw [World.size_alloc] at this
      exact Lib.hid this, Lib.hid (((Below.refl _ _).alloc (Nat.le_refl _) _).alloc (by simp) _), by simp⟩
    case round =>
      clear HE
      obtain ⟨k, rfl, hk, hg, HE, HK, HB, hsz⟩ := hrel
      by_cases hlt : k < T.cls.length
      · have hltz : (k : Int) < (T.cls.length : Int) := by omega
        have Hlt := Lib.hid hlt
        have Htk := Lib.hid (names_take T.cls k hlt)
        have hE := HE.out
        rw [List.drop_eq_getElem_cons hlt, clsE] at hE
        obtain ⟨b, o, cs, rfl, _, _, hKc, hcc⟩ := (HC.out.below HB.out).at_ k hlt
        obtain ⟨As, cp, rfl, hlc, hCs⟩ := kCl_open hKc
        have hsm := HSM.out _ (List.getElem_mem hlt)
        have hc0 := hcc 0 _ rfl
        have hc1 := hcc 1 _ rfl
        have hksz : kCl.sz = 2 := rfl
        rw [hksz] at hc0 hc1
        rw [Nat.add_zero] at hc0
        have hnm := hsm.1
        have HSS := Lib.hid hsm.2
        have HCs := Lib.hid hCs
        have hclm : (T.cls[k]'hlt).2.length ≤ 9223372036854775807 := hCs.len
        generalize T.cls[k]'hlt = cl at hE hc0 hc1 hnm HSS HCs hlc Htk hclm
        have HNC := Lib.hid (fun w => HN.out cl.1 w hnm)
        generalize hR : T.cls.drop (k + 1) = rest at hE
        have HR := Lib.hid hR
        clear hKc hcc hCs hsm hksz hR HE
        cases hb1 : nameB cl.1 with
        | false =>
          rw [hb1] at hE HNC
          obtain rfl : (30 : Int) = E := hE
          clear hb1
          go_wp2_with (go_at_call 18; refine (HNC.out _).mono ?_; rintro e w' ⟨rfl, hb⟩)
          go_ret
          exact ⟨rfl, (HB.out.alloc (by omega) _).trans (hb.mono (by simp; omega))⟩
        | true =>
          rw [hb1, if_pos rfl] at hE
          rw [hb1] at HNC
          have HE := Lib.hid hE
          clear hb1 hE
          go_wp2_with fail
          refine (HNC.out _).mono ?_
          rintro e w3 ⟨rfl, hb⟩
          have hbx : w3.heap[wr.heap.size]? = some (.cells #[.string cl.1, .slice As cl.2.length cp] 48 (0, 0)) := (hb.block _ (by simp)).trans (World.alloc_heap_new wr _)
          have hb0 : w3.cell? ⟨wr.heap.size, 0, none⟩ = some (.string cl.1) := by simp [World.cell?, hbx]
          have hb1 : w3.cell? ⟨wr.heap.size, 1, none⟩ = some (.slice As cl.2.length cp) := by simp [World.cell?, hbx]
          have hB3 : Below w.heap.size w w3 := (HB.out.alloc (by omega) _).trans (hb.mono (by simp; omega))
          have hBr : Below wr.heap.size wr w3 := ((Below.refl _ wr).alloc (Nat.le_refl _) _).trans (hb.mono (by simp))
          have hK3 := HK.out.below hBr hsz
          have hsz3 : wr.heap.size < w3.heap.size := by have := hb.size; simp at this; omega
          have hlook := hK3.lookup cl.1 hnm
          rw [anyB_contains] at hlook
          have HK3 := Lib.hid hK3
          have HB3 := Lib.hid hB3
          have HBX := Lib.hid hbx
          have HCs3 := Lib.hid (HCs.out.below hBr)
          clear hB3 hK3 hb hBr hbx HNC
          have hE := HE.out
          cases hct : ((T.cls.take k).map (·.1)).contains cl.1 with
          | true =>
            rw [hct, if_pos rfl] at hE
            rw [hct] at hlook
            obtain rfl : (10 : Int) = E := hE
            clear hct
            go_wp2
            go_ret
            exact ⟨rfl, HB3.out⟩
          | false =>
            rw [hct, if_neg (by decide)] at hE
            rw [hct] at hlook
            clear hct
            by_cases h20 : 20 < cl.2.length
            · rw [if_pos h20] at hE
              have g20 : (20 : Int) < (cl.2.length : Int) := by omega
              obtain rfl : (5 : Int) = E := hE
              go_wp2
              go_ret
              exact ⟨rfl, HB3.out⟩
            · rw [if_neg h20] at hE
              have g20 : ¬ (20 : Int) < (cl.2.length : Int) := by omega
              generalize hX : supE ((T.cls.take k).map (·.1)) none cl.2 = X at hE
              have HE := Lib.hid hE
              have HX := Lib.hid hX
              clear hE hX h20
              go_wp2
              go_loopg [38] cl.2.length (fun gg v wr3 => ∃ j : Nat, v = .int .i64 j ∧ j ≤ cl.2.length ∧ cl.2.length - j ≤ gg ∧ Hid (supE ((T.cls.take k).map (·.1)) (prevB cl.2 j) (cl.2.drop j) = X) ∧ wr3 = w3)
              case atStart => exact ⟨0, rfl, by omega, by omega, HX, rfl⟩
              case round =>
                clear HX
                obtain ⟨j, rfl, hj, hg3, HX, rfl⟩ := hrel
                by_cases hjl : j < cl.2.length
                · have hjz : (j : Int) < (cl.2.length : Int) := by omega
                  have Hjl := Lib.hid hjl
                  obtain ⟨bs, os, rfl, _, _, hcs⟩ := str_at HCs3.out j hjl
                  have hssz := HSS.out _ (List.getElem_mem hjl)
                  have hx := HX.out
                  rw [List.drop_eq_getElem_cons hjl, supE] at hx
                  have Hpv : Hid (prevB cl.2 (j + 1) = some (cl.2[j]'hjl)) := Lib.hid (List.getElem?_eq_getElem hjl)
                  generalize cl.2[j]'hjl = sx at hcs hssz hx Hpv
                  have hlook2 := HK3.out.lookup sx hssz
                  rw [anyB_contains] at hlook2
                  cases hct : ((T.cls.take k).map (·.1)).contains sx with
                  | false =>
                    rw [hct, if_neg (by decide)] at hx
                    rw [hct] at hlook2
                    obtain rfl : (9 : Int) = X := hx
                    obtain rfl : (9 : Int) = E := HE.out
                    clear hct
                    go_wp2
                    go_ret
                    exact ⟨rfl, HB3.out⟩
                  | true =>
                    rw [hct, if_pos rfl] at hx
                    rw [hct] at hlook2
                    clear hct
                    by_cases hj0 : j = 0
                    · subst hj0
                      have hg0 : ¬ ((0 : Nat) : Int) > 0 := by omega
                      have hg00 : decide ((0 : Int) < ((0 : Nat) : Int)) = false := by simp
                      have hcs0 : wr.cell? ⟨bs, os, none⟩ = some (.string sx) := hcs
                      clear hcs
                      rw [if_neg (by simp [prevB, outB])] at hx
                      rw [← Hpv.out] at hx
                      have HX := Lib.hid hx
                      clear hx
                      go_wp2
                      go_roundg (cl.2.length - (0 + 1))
                      case measure => omega
                      case rel => exact ⟨0 + 1, by go_num, Hjl.out, Nat.le_refl _, HX, rfl⟩
                    · obtain ⟨q, rfl⟩ : ∃ q, j = q + 1 := ⟨j - 1, by omega⟩
                      have hq : q < cl.2.length := by omega
                      obtain ⟨bs2, os2, hbb, _, _, hcq⟩ := str_at HCs3.out q hq
                      injection hbb with hbb
                      injection hbb with e1 e2 _
                      subst e1; subst e2
                      have hpq : prevB cl.2 (q + 1) = some (cl.2[q]'hq) := List.getElem?_eq_getElem hq
                      rw [hpq] at hx
                      have HLT := Lib.hid (str_lt (cl.2[q]'hq) sx)
                      generalize cl.2[q]'hq = sq at hcq hx HLT
                      have hgq : (0 : Int) < ((q + 1 : Nat) : Int) := by omega
                      have hqs : ((q + 1 : Nat) : Int) - 1 = (q : Int) := by omega
                      have hqz : (q : Int) < (cl.2.length : Int) := by omega
                      rw [show outB (some sq) sx = !less sq sx from rfl] at hx
                      cases hls : less sq sx with
                      | true =>
                        rw [hls, if_neg (by decide), ← Hpv.out] at hx
                        have HX := Lib.hid hx
                        have hl2 : Op.bytesLess sq.toList sx.toList = true := HLT.out.trans hls
                        clear hx hls hpq hj0
                        go_wp2
                        go_roundg (cl.2.length - (q + 1 + 1))
                        case measure => omega
                        case rel => exact ⟨q + 1 + 1, by go_num, Hjl.out, Nat.le_refl _, HX, rfl⟩
                      | false =>
                        rw [hls, if_pos (by decide)] at hx
                        have hl2 : Op.bytesLess sq.toList sx.toList = false := HLT.out.trans hls
                        obtain rfl : (17 : Int) = X := hx
                        obtain rfl : (17 : Int) = E := HE.out
                        clear hls hpq hj0
                        go_wp2
                        go_ret
                        exact ⟨rfl, HB3.out⟩
                · have hjz : ¬ (j : Int) < (cl.2.length : Int) := by omega
                  have hx := HX.out
                  rw [List.drop_eq_nil_of_le (by omega), supE] at hx
                  obtain rfl : (0 : Int) = X := hx
                  have hE := HE.out
                  rw [if_neg (by decide), ← Htk.out, ← HR.out] at hE
                  have HE := Lib.hid hE
                  obtain ⟨w5, hup, hset, hgr⟩ := HK3.out.update (by unfold maxLen; omega) cl.1 hnm
                  have HS5 := Lib.hid hset
                  have HG5 := Lib.hid hgr
                  clear hE hset hgr
                  go_wp2
                  go_roundg (T.cls.length - (k + 1))
                  case measure => omega
                  case rel =>
                    refine ⟨k + 1, by go_num, Hlt.out, Nat.le_refl _, HE, ?_, ?_, ?_⟩
                    · rw [Htk.out, anyB_push]; exact HS5
                    · exact Lib.hid (HB3.out.grown HG5.out (by have := HB3.out.size; omega) (fun k hk => by cases hk; omega))
                    · have := HG5.out.size; omega
      · have hltz : ¬ (k : Int) < (T.cls.length : Int) := by omega
        have hE := HE.out
        rw [List.drop_eq_nil_of_le (by omega), clsE] at hE
        obtain rfl : (0 : Int) = E := hE
        clear HE
        go_wp2
        go_ret
        exact ⟨rfl, HB.out⟩
end Go.Proofs.YthfomoigaoffgaaGreat.So
