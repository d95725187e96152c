/- Walks of sort.Check: constructors. -/
import Derived.Test.YthfomoigaoffgaaGreatAr0
import Derived.Test.YthfomoigaoffgaaGreatOb
import Derived.Test.YthfomoigaoffgaaGreatSo9
import Derived.Test.YthfomoigaoffgaaGreatRf2
namespace Go.Proofs.YthfomoigaoffgaaGreat.Ch
open Go Go.RowKit Go.Proofs.YthfomoigaoffgaaGreat.K Go.Proofs.YthfomoigaoffgaaGreat.G Go.Proofs.YthfomoigaoffgaaGreat.Ix Go.Proofs.YthfomoigaoffgaaGreat.O Go.Proofs.YthfomoigaoffgaaGreat.So
set_option linter.unusedSimpArgs false
set_option linter.unusedVariables false

theorem str_law : KeyLaw Tryz.prog 9 isS eqS := string_law Tryz.underlying9
/-- the entries of constructors -/
def tyP (ts : List Td) : List (Value × Value) := ts.map (fun d => (.string d.1, .int .i64 d.2))
theorem tyP_ok (ts : List Td) : ∀ e ∈ tyP ts, isS e.1 := fun e he => by
  obtain ⟨d, _, rfl⟩ := List.mem_map.1 he
  exact ⟨d.1, rfl⟩
theorem tyP_assoc (ts : List Td) (a : ByteArray) : assocV eqS (.string a) (tyP ts) = (args? ts a).map (Value.int .i64) := by
  unfold assocV tyP args?
  induction ts with
  | nil => rfl
  | cons d r ih =>
    rw [List.map_cons, List.find?_cons, List.find?_cons]
    have e : eqS (.string a) (.string d.1) = (d.1 == a) := by
      show (a == d.1) = (d.1 == a)
      rw [Bool.eq_iff_iff, beq_iff, beq_iff]
      exact eq_comm
    simp only [e]
    cases (d.1 == a) with
    | true => rfl
    | false => exact ih
theorem td_at {S : Nat → Prop} {w : World} {A : Option Addr} {l : List Td} (h : C kTd S w A l) (j : Nat) (hj : j < l.length) : ∃ b o, A = some ⟨b, o, none⟩ ∧ b < w.heap.size ∧ w.cell? ⟨b, o + j * 2, none⟩ = some (.string (l[j]'hj).1) ∧ w.cell? ⟨b, o + j * 2 + 1, none⟩ = some (.int .i64 (l[j]'hj).2) := by
  obtain ⟨b, o, cs, e, _, hb, hK, hc⟩ := h.at_ j hj
  obtain rfl := kTd_open hK
  exact ⟨b, o, e, hb, hc 0 _ rfl, hc 1 _ rfl⟩
theorem tys_take (ts : List Td) (k : Nat) (h : k < ts.length) : (ts.take (k + 1)).map (·.1) = (ts.take k).map (·.1) ++ [(ts[k]'h).1] := by
  rw [List.take_succ_eq_append_getElem h, List.map_append]; rfl

theorem zero_int (w : World) : (zeroValue 3).run Tryz.prog w = .ok (.int .i64 0) w := by kernel_rfl
/-- what constructors returns -/
def CtEnd (w : World) (ts : List Td) (E : Int) (e : Ending) (w' : World) : Prop :=
  (∃ v, e = .returned (.tuple #[v, .int .i64 E]) ∧ (E = 0 → ∃ b, v = .map (some b) ∧ w.heap.size ≤ b ∧ MapIs w' b (tyP ts))) ∧ Below w.heap.size w w'

set_option maxRecDepth 100000 in
set_option maxHeartbeats 2000000 in
theorem constructors_calls (S : Nat → Prop) (r : Raw) (T : Thy) (w : World) (hT : ThyR S w r T) (hsm : ∀ d ∈ T.tys, d.1.size ≤ maxLen) :
    Calls Tryz.prog 41 #[thyV r T] w (CtEnd w T.tys (constrE T.tys)) := by
  have HC := Lib.hid hT.tys
  have HSM := Lib.hid hsm
  have HN := Lib.hid (fun s w hs => So.IsName_calls s w hs)
  have hlm : T.tys.length ≤ 9223372036854775807 := hT.tys.len
  have hmm := @run_makeMap Tryz.prog
  clear hT hsm
  obtain ⟨W1, hW1⟩ : ∃ W1, w.alloc (.cells (thyC r T) 29) = W1 := ⟨_, rfl⟩
  have hb1 : Below w.heap.size w W1 := by rw [← hW1]; exact (Below.refl _ _).alloc (Nat.le_refl _) _
  have hs1 : W1.heap.size = w.heap.size + 1 := by rw [← hW1]; simp
  have hT1 : W1.heap[w.heap.size]? = some (.cells (thyC r T) 29 (0, 0)) := by rw [← hW1]; exact World.alloc_heap_new w _
  obtain ⟨y0, y1, y2, y3, y4, y5, y6⟩ := Rf.thy_cells' hT1
  have HB1 := Lib.hid hb1
  unfold constrE
  unfold thyV
  unfold thyC at hW1 ⊢
  by_cases h300 : 300 < T.tys.length
  · rw [if_pos h300]
    have g : (300 : Int) < (T.tys.length : Int) := by omega
    clear hb1 hs1 hT1
    go_enter Tryz.func41, Tryz.ntmps41
    go_wp2
    go_ret2
    exact ⟨⟨_, rfl, fun h => absurd h (by decide)⟩, HB1.out⟩
  · rw [if_neg h300]
    have g : ¬ (300 : Int) < (T.tys.length : Int) := by omega
    generalize hE : ctE [] T.tys = E
    have HE := Lib.hid (show ctE ((T.tys.take 0).map (·.1)) (T.tys.drop 0) = E from hE)
    clear hE
    obtain ⟨W2, hW2⟩ : ∃ W2, W1.alloc (.map #[] 0) = W2 := ⟨_, rfl⟩
    have HM2 := Lib.hid (show MapIs W2 (w.heap.size + 1) (tyP (T.tys.take 0)) by rw [← hW2, ← hs1]; exact MapIs.made W1)
    have HB2 := Lib.hid (show Below w.heap.size w W2 by rw [← hW2]; exact hb1.alloc (by omega) _)
    have HT2 := Lib.hid (show W2.heap[w.heap.size]? = some (.cells (thyC r T) 29 (0, 0)) by rw [← hW2]; exact (Below.heap_alloc _ _ _ (by omega)).trans hT1)
    have hT2c : W2.cell? ⟨w.heap.size, 2, none⟩ = some (.slice r.a2 T.tys.length r.c2) := (Rf.thy_cells' HT2.out).2.2.1
    clear hb1 hT1 HT2
    generalize r.a2 = A2 at HC y2 hT2c hW1 ⊢
    go_enter Tryz.func41, Tryz.ntmps41
    go_wp2
    clear hW1 hW2 y0 y1 y2 y3 y4 y5 y6 hmm hT2c
    go_loopg [17] T.tys.length (fun gg v wr => ∃ k : Nat, v = .int .i64 k ∧ k ≤ T.tys.length ∧ T.tys.length - k ≤ gg ∧ Hid (ctE ((T.tys.take k).map (·.1)) (T.tys.drop k) = E) ∧ Hid (MapIs wr (w.heap.size + 1) (tyP (T.tys.take k))) ∧ Hid (Below w.heap.size w wr))
    case atStart => exact ⟨0, rfl, by omega, by omega, HE, HM2, HB2⟩
    case round =>
      clear HE HM2 HB2
      obtain ⟨k, rfl, hk, hg, HE, HM, HB⟩ := hrel
      by_cases hlt : k < T.tys.length
      · have hltz : (k : Int) < (T.tys.length : Int) := by omega
        have Hlt := Lib.hid hlt
        have Htk := Lib.hid (tys_take T.tys k hlt)
        have Htp := Lib.hid (show tyP (T.tys.take (k + 1)) = tyP (T.tys.take k) ++ [(.string (T.tys[k]'hlt).1, .int .i64 (T.tys[k]'hlt).2)] by unfold tyP; rw [List.take_succ_eq_append_getElem hlt, List.map_append]; rfl)
        have hE := HE.out
        rw [List.drop_eq_getElem_cons hlt, ctE] at hE
        obtain ⟨b, o, rfl, _, q0, q1⟩ := td_at (HC.out.below HB.out) k hlt
        have hnm := HSM.out _ (List.getElem_mem hlt)
        generalize T.tys[k]'hlt = d at hE q0 q1 hnm Htk Htp
        have HNC := Lib.hid (fun w => HN.out d.1 w hnm)
        have hsz : wr.heap.size + 1 ≤ (wr.alloc (.cells #[.string d.1, .int .i64 d.2] 54)).heap.size := by simp
        have hs0 := HB.out.size
        clear HE
        cases hb1 : nameB d.1 with
        | false =>
          rw [hb1] at hE HNC
          obtain rfl : (30 : Int) = E := hE
          clear hb1
          go_wp2_with fail
          refine (HNC.out _).mono ?_
          rintro e w3 ⟨rfl, hb⟩
          have HB3 := Lib.hid (show Below w.heap.size w w3 from (HB.out.alloc HB.out.size _).trans (hb.mono (by simp; omega)))
          clear hb hsz
          go_wp2
          go_ret2
          exact ⟨⟨_, rfl, fun h => absurd h (by decide)⟩, HB3.out⟩
        | true =>
          rw [hb1, if_pos rfl] at hE
          rw [hb1] at HNC
          have HE := Lib.hid hE
          clear hb1 hE
          go_wp2_with fail
          refine (HNC.out _).mono ?_
          rintro e w3 ⟨rfl, hb⟩
          have HBX := Lib.hid (show w3.heap[wr.heap.size]? = some (.cells #[.string d.1, .int .i64 d.2] 54 (0, 0)) from (hb.block _ hsz).trans (World.alloc_heap_new wr _))
          have hb0 : w3.cell? ⟨wr.heap.size, 0, none⟩ = some (.string d.1) := by simp [World.cell?, HBX.out]
          have hb1 : w3.cell? ⟨wr.heap.size, 1, none⟩ = some (.int .i64 d.2) := by simp [World.cell?, HBX.out]
          have hBr : Below wr.heap.size wr w3 := ((Below.refl _ wr).alloc (Nat.le_refl _) _).trans (hb.mono (by simp))
          have HB3 := Lib.hid (HB.out.trans (hBr.mono HB.out.size))
          have HM3 := Lib.hid (HM.out.below hBr)
          have hlook := str_law.lookup (mt := 75) Tryz.underlying75 HM3.out (tyP_ok _) ⟨d.1, rfl⟩ (zero_int w3) true
          rw [tyP_assoc, if_pos rfl] at hlook
          have hE := HE.out
          have hct0 := args_take T.tys k d.1
          rw [← hct0] at hE
          clear hb hBr hsz hct0 HNC
          cases hct : args? (T.tys.take k) d.1 with
          | some x =>
            rw [hct] at hE hlook
            obtain rfl : (10 : Int) = E := hE
            have hlook2 : Sem.run Tryz.prog (Instr.lookup 75 (.map (some (w.heap.size + 1))) (.string d.1) true) w3 = .ok (.tuple #[.int .i64 x, .bool true]) w3 := hlook
            clear hct hlook HE
            go_wp2
            go_ret2
            exact ⟨⟨_, rfl, fun h => absurd h (by decide)⟩, HB3.out⟩
          | none =>
            rw [hct] at hE hlook
            have hE : (if d.2 < 0 ∨ 10 < d.2 then 4 else ctE ((T.tys.take k).map (·.1) ++ [d.1]) (T.tys.drop (k + 1))) = E := hE
            have hlook2 : Sem.run Tryz.prog (Instr.lookup 75 (.map (some (w.heap.size + 1))) (.string d.1) true) w3 = .ok (.tuple #[.int .i64 0, .bool false]) w3 := hlook
            obtain ⟨w5, hup, hm5, hc5⟩ := str_law.push (mt := 75) Tryz.underlying75 (v := .int .i64 d.2) HM3.out (tyP_ok _) ⟨d.1, rfl⟩ (by rw [tyP_assoc, hct]; rfl)
            have hup2 : Sem.run Tryz.prog (Instr.mapUpdate 75 (.map (some (w.heap.size + 1))) (.string d.1) (.int .i64 d.2)) w3 = .ok () w5 := hup
            rw [← Htp.out] at hm5
            have HM5 := Lib.hid hm5
            have HB5 := Lib.hid (HB3.out.trans (hc5.below HB3.out.size (fun j hj => by omega)))
            clear hct hlook HE hup hm5 hc5
            by_cases hlo : d.2 < 0
            · rw [if_pos (.inl hlo)] at hE
              obtain rfl : (4 : Int) = E := hE
              clear hup2
              go_wp2
              go_ret2
              exact ⟨⟨_, rfl, fun h => absurd h (by decide)⟩, HB3.out⟩
            · by_cases hhi : 10 < d.2
              · rw [if_pos (.inr hhi)] at hE
                obtain rfl : (4 : Int) = E := hE
                clear hup2
                go_wp2
                go_ret2
                exact ⟨⟨_, rfl, fun h => absurd h (by decide)⟩, HB3.out⟩
              · rw [if_neg (by omega), ← Htk.out] at hE
                have HE2 := Lib.hid hE
                clear hE
                go_wp2
                go_roundg (T.tys.length - (k + 1))
                case measure => omega
                case rel => exact ⟨k + 1, by go_num, Hlt.out, Nat.le_refl _, HE2, HM5, HB5⟩
      · have hltz : ¬ (k : Int) < (T.tys.length : Int) := by omega
        have hE := HE.out
        rw [List.drop_eq_nil_of_le (by omega), ctE] at hE
        obtain rfl : (0 : Int) = E := hE
        have HM2 := Lib.hid (show MapIs wr (w.heap.size + 1) (tyP T.tys) by have := HM.out; rwa [List.take_of_length_le (by omega)] at this)
        clear HE HM
        go_wp2
        go_ret2
        exact ⟨⟨_, rfl, fun _ => ⟨_, rfl, by omega, HM2.out⟩⟩, HB.out⟩
end Go.Proofs.YthfomoigaoffgaaGreat.Ch
