/- Walks: a text exchanged. -/
import Derived.Test.YtmkfeanggmjhmaaX3
import Derived.Test.YtmkfeanggmjhmaaBld
import Derived.Deep.LoopGhost
import Derived.WalkMore
namespace Go.Proofs.Ytmkfeanggmjhmaa.X
open Go Go.RowKit Go.Proofs.YtmkfeanggmjhmaaW.PrintWords Go.Proofs.YtmkfeanggmjhmaaW.PrintLast Go.Proofs.YtmkfeanggmjhmaaW.PrintMore
open Go.Proofs.Ytmkfeanggmjhmaa.M Go.Proofs.Ytmkfeanggmjhmaa.K
set_option linter.unusedSimpArgs false
set_option linter.unusedVariables false

theorem own_below {w w' : World} {base : Nat} {e : TypeId} {size n : Nat} {v : Value} {xs : List Value} (h : w.ownsRow base e size v n xs) (hb : Below w.heap.size w w') : w'.ownsRow base e size v n xs := by
  obtain ⟨h1, h2⟩ := h
  refine ⟨h1, ?_⟩
  rcases h2 with h2 | ⟨g, cap, cur, hv, hg, hh, h3⟩
  · exact .inl h2
  · exact .inr ⟨g, cap, cur, hv, hg, by rw [hb.block g (Array.getElem?_eq_some_iff.1 hh).1]; exact hh, h3⟩
theorem bldAt_below {T e : TypeId} {B b : Nat} {p : Value} {bs : List Value} {w w' : World} (h : Lib.BuilderAt T e B b p bs w) (hb : Below w.heap.size w w') : Lib.BuilderAt T e B b p bs w' := by
  obtain ⟨h0, v, h1, h2, h3⟩ := h
  exact ⟨h0, v, by rw [hb.block b (Array.getElem?_eq_some_iff.1 h1).1]; exact h1, own_below h2 hb, h3⟩
theorem bld_below {T e : TypeId} {B b : Nat} {bs : List Value} {w w' : World} (h : Lib.IsBuilder T e B b bs w) (hb : Below w.heap.size w w') : Lib.IsBuilder T e B b bs w' := by
  rcases h with h | h
  · exact .inl (bldAt_below h hb)
  · exact .inr (bldAt_below h hb)

def sg (m : Nat) : ByteArray := ⟨((signPairs.getD m ([], [])).1).toArray⟩
def sy (m : Nat) : ByteArray := ⟨((signPairs.getD m ([], [])).2).toArray⟩
theorem index_pairs (m : Nat) (h : m < 10) (W : World) : (Instr.index 79 pairsV (.int .i64 (m : Int))).run Try.prog W = .ok (.agg #[.string (sg m), .string (sy m)]) W := by
  have hu : ∀ W, (underlying 79).run Try.prog W = .ok (.array 10 55) W := fun W => by simp [underlying, Try.underlying79, go_sem]
  match m, h with
  | 0, _ => simp [Instr.index, pairsV, hu, Try.sizeOf55, Result.andThen, go_sem]; exact ⟨rfl, rfl⟩
  | 1, _ => simp [Instr.index, pairsV, hu, Try.sizeOf55, Result.andThen, go_sem]; exact ⟨rfl, rfl⟩
  | 2, _ => simp [Instr.index, pairsV, hu, Try.sizeOf55, Result.andThen, go_sem]; exact ⟨rfl, rfl⟩
  | 3, _ => simp [Instr.index, pairsV, hu, Try.sizeOf55, Result.andThen, go_sem]; exact ⟨rfl, rfl⟩
  | 4, _ => simp [Instr.index, pairsV, hu, Try.sizeOf55, Result.andThen, go_sem]; exact ⟨rfl, rfl⟩
  | 5, _ => simp [Instr.index, pairsV, hu, Try.sizeOf55, Result.andThen, go_sem]; exact ⟨rfl, rfl⟩
  | 6, _ => simp [Instr.index, pairsV, hu, Try.sizeOf55, Result.andThen, go_sem]; exact ⟨rfl, rfl⟩
  | 7, _ => simp [Instr.index, pairsV, hu, Try.sizeOf55, Result.andThen, go_sem]; exact ⟨rfl, rfl⟩
  | 8, _ => simp [Instr.index, pairsV, hu, Try.sizeOf55, Result.andThen, go_sem]; exact ⟨rfl, rfl⟩
  | 9, _ => simp [Instr.index, pairsV, hu, Try.sizeOf55, Result.andThen, go_sem]; exact ⟨rfl, rfl⟩
theorem at_signs (m : Nat) (h : m < 10) : ∃ p, (signPairs).drop m = p :: (signPairs).drop (m + 1) ∧ 0 < p.1.length ∧ p.2.length ≤ 20 ∧ (sg m).data.toList = p.1 ∧ (sy m).data.toList = p.2 := by
  match m, h with
  | 0, _ => exact ⟨_, rfl, by decide, by decide, rfl, rfl⟩
  | 1, _ => exact ⟨_, rfl, by decide, by decide, rfl, rfl⟩
  | 2, _ => exact ⟨_, rfl, by decide, by decide, rfl, rfl⟩
  | 3, _ => exact ⟨_, rfl, by decide, by decide, rfl, rfl⟩
  | 4, _ => exact ⟨_, rfl, by decide, by decide, rfl, rfl⟩
  | 5, _ => exact ⟨_, rfl, by decide, by decide, rfl, rfl⟩
  | 6, _ => exact ⟨_, rfl, by decide, by decide, rfl, rfl⟩
  | 7, _ => exact ⟨_, rfl, by decide, by decide, rfl, rfl⟩
  | 8, _ => exact ⟨_, rfl, by decide, by decide, rfl, rfl⟩
  | 9, _ => exact ⟨_, rfl, by decide, by decide, rfl, rfl⟩
theorem at_turned (m : Nat) (h : m < 10) : ∃ p, (turned signPairs).drop m = p :: (turned signPairs).drop (m + 1) ∧ 0 < p.1.length ∧ p.2.length ≤ 20 ∧ (sy m).data.toList = p.1 ∧ (sg m).data.toList = p.2 := by
  match m, h with
  | 0, _ => exact ⟨_, rfl, by decide, by decide, rfl, rfl⟩
  | 1, _ => exact ⟨_, rfl, by decide, by decide, rfl, rfl⟩
  | 2, _ => exact ⟨_, rfl, by decide, by decide, rfl, rfl⟩
  | 3, _ => exact ⟨_, rfl, by decide, by decide, rfl, rfl⟩
  | 4, _ => exact ⟨_, rfl, by decide, by decide, rfl, rfl⟩
  | 5, _ => exact ⟨_, rfl, by decide, by decide, rfl, rfl⟩
  | 6, _ => exact ⟨_, rfl, by decide, by decide, rfl, rfl⟩
  | 7, _ => exact ⟨_, rfl, by decide, by decide, rfl, rfl⟩
  | 8, _ => exact ⟨_, rfl, by decide, by decide, rfl, rfl⟩
  | 9, _ => exact ⟨_, rfl, by decide, by decide, rfl, rfl⟩
theorem ext_cons (c : UInt8) (r : List UInt8) : (⟨(c :: r).toArray⟩ : ByteArray).extract 1 (r.length + 1) = ⟨r.toArray⟩ := by
  apply ByteArray.ext
  apply Array.ext'
  rw [ByteArray.data_extract, Array.toList_extract, List.extract_eq_take_drop]
  simp

set_option maxRecDepth 100000 in
set_option maxHeartbeats 4000000 in
theorem exchanged_signs (s : ByteArray) (w : World) (hs : s.size ≤ 1000000000000) :
    Calls Try.prog 27 #[.string s, .func (.func 28) #[] #[]] w fun r w' =>
      r = .returned (.string ⟨(exE signPairs s.data.toList).toArray⟩) ∧ Below w.heap.size w w' := by
  go_enter Try.func27, Try.ntmps27
  go_wp2
  go_step3
  go_wp2
  go_step3
  go_wp2
  have hfr := Bld.fresh w
  have Hfr := Lib.hid hfr
  clear hfr
  go_loopg [0] s.size (fun gg v wr => ∃ (rest out : List UInt8), v = .string ⟨rest.toArray⟩ ∧ rest.length ≤ gg ∧ out.length + 20 * rest.length ≤ 20 * s.size ∧ Hid (exE signPairs s.data.toList = out ++ exE signPairs rest) ∧
    Lib.IsBuilder 78 5 w.heap.size w.heap.size (Lib.byteCells out) wr ∧ w.heap.size < wr.heap.size ∧ Below w.heap.size w wr)
  case atStart => exact ⟨s.data.toList, [], by simp, Nat.le_refl _, by have : s.data.toList.length = s.size := rfl; simp only [List.length_nil]; omega, rfl, Hfr.out, by simp, (Below.refl _ _).alloc (by simp) _⟩
  case round =>
    obtain ⟨rest, out, rfl, hgo, hlen, HE, hbu, hsz, hbl⟩ := hrel
    have Hbu := Lib.hid hbu
    clear hbu
    have Hbl := Lib.hid hbl
    clear hbl
    cases rest with
    | nil =>
      have HST := Lib.hid (Try.Builder_String_any w.heap.size w.heap.size out wr Hbu.out (by omega))
      go_wp2_with fail
      refine HST.out.mono ?_
      rintro e w1 ⟨rfl, hb1⟩
      go_wp2
      (try rw [Exit.noGoto_ret])
      go_ret
      refine ⟨?_, Hbl.out.trans hb1⟩
      rw [HE.out, exE_nil, List.append_nil]
      rfl
    | cons c r =>
      have hp := Lib.hid (pairs_calls wr)
      go_wp2_with (go_at_call 44; refine hp.out.mono ?_; rintro e w1 ⟨rfl, hb1⟩)
      have hbu1 := bld_below Hbu.out hb1
      have hbl1 : Below w.heap.size w w1 := Hbl.out.trans (hb1.mono (by omega))
      have hsz1 : w.heap.size < w1.heap.size := by have := hb1.size; omega
      clear hp Hbu Hbl hb1
      have Hbu1 := Lib.hid hbu1
      have Hbl1 := Lib.hid hbl1
      clear hbu1 hbl1
      go_loopg [0, 16] 10 (fun gg v0 v wr' => ∃ (m : Nat), v0 = .string ⟨(c :: r).toArray⟩ ∧ v = .int .i64 m ∧ m ≤ 10 ∧ 10 - m ≤ gg ∧ Hid (((signPairs).drop m).find? (fun p => p.1.isPrefixOf (c :: r)) = hit signPairs (c :: r)) ∧
        Lib.IsBuilder 78 5 w.heap.size w.heap.size (Lib.byteCells out) wr' ∧ w.heap.size < wr'.heap.size ∧ Below w.heap.size w wr')
      case atStart => exact ⟨0, rfl, by go_num, by omega, by omega, rfl, Hbu1.out, hsz1, Hbl1.out⟩
      case round =>
        obtain ⟨m, rfl, rfl, hm, hg, Hm, hbu, hsz2, hbl⟩ := hrel
        clear Hbu1 Hbl1 hsz1
        rename_i wr1
        have Hbu := Lib.hid hbu
        clear hbu
        have Hbl := Lib.hid hbl
        clear hbl
        by_cases hlt : m < 10
        · have hltz : (m : Int) < 10 := by omega
          have hix := index_pairs m hlt
          have Hway := Lib.hid (fun w => way0_calls (sg m) (sy m) w)
          obtain ⟨p, hd, hp1, hp2, hf, ht⟩ := at_signs m hlt
          have hm' := Hm.out
          rw [hd, List.find?_cons] at hm'
          have hcut := Try.strings_CutPrefix ⟨(c :: r).toArray⟩ (sg m)
          rw [hf] at hcut
          by_cases hh : p.1.isPrefixOf (c :: r) = true
          · have e1 : Lib.hasPrefix (⟨(c :: r).toArray⟩ : ByteArray).data.toList p.1 = true := hh
            have e2 : Lib.trimPrefix (⟨(c :: r).toArray⟩ : ByteArray).data.toList p.1 = (c :: r).drop p.1.length := by unfold Lib.trimPrefix; rw [e1]; rfl
            rw [e1, e2] at hcut
            rw [hh] at hm'
            have hm2 : hit signPairs (c :: r) = some p := hm'.symm
            have hx := exE_hit okSigns (List.cons_ne_nil c r) hm2
            have HCUT := Lib.hid hcut
            have HX := Lib.hid hx
            have HF := Lib.hid hf
            have HT := Lib.hid ht
            have hpl := (List.isPrefixOf_iff_prefix.1 hh).length_le
            have hrl : ((c :: r).drop p.1.length).length + p.1.length ≤ r.length + 1 := by
              rw [List.length_drop]; simp only [List.length_cons] at *; omega
            have Hrl := Lib.hid hrl
            clear hcut hx hf ht e1 e2 hh hm' hm2 hd Hm hpl hrl
            generalize (c :: r).drop p.1.length = rest' at HCUT HX Hrl
            have HWS := Lib.hid (fun (w2 : World) (h : Hid (Lib.IsBuilder 78 5 w.heap.size w.heap.size (Lib.byteCells out) w2 ∧ w.heap.size ≤ w2.heap.size)) =>
              Bld.WriteString_calls w.heap.size w.heap.size (Lib.byteCells out) (sy m) w2 h.out.1 (by rw [Lib.byteCells_length]; have : (sy m).size = p.2.length := congrArg List.length HT.out; simp only [List.length_cons] at hlen; omega) h.out.2)
            go_wp2_with (first
              | (go_at_call 28; refine (Hway.out _).mono ?_; rintro e w2 ⟨rfl, hb2⟩)
              | (go_at_call 45; refine (HCUT.out _).mono ?_; rintro e w3 ⟨rfl, rfl⟩)
              | (go_at_call 46; refine (HWS.out _ ?_).mono ?_; rotate_left 1; rintro e w4 ⟨rfl, hbu4, hb4⟩))
            · have hb' : Below wr.heap.size wr w3 := ((Below.refl _ wr).alloc (Nat.le_refl _) _).trans (hb2.mono (by simp))
              have hrl := Hrl.out
              rw [Lib.strCells_eq, HT.out] at hbu4
              have hbc : Lib.byteCells out ++ Lib.byteCells p.2 = Lib.byteCells (out ++ p.2) := by simp [Lib.byteCells]
              rw [hbc] at hbu4
              go_roundg rest'.length
              case measure => simp only [List.length_cons] at hgo; omega
              case rel => exact ⟨rest', out ++ p.2, rfl, Nat.le_refl _, by rw [List.length_append]; simp only [List.length_cons] at hlen; omega, Lib.hid (HE.out.trans (by rw [HX.out, List.append_assoc])), hbu4, by have := hb4.size; have := hb'.size; omega, (Hbl.out.trans (hb'.mono (by omega))).trans hb4⟩
            · have hb' : Below wr.heap.size wr w3 := ((Below.refl _ wr).alloc (Nat.le_refl _) _).trans (hb2.mono (by simp))
              exact Lib.hid ⟨bld_below Hbu.out hb', by have := hb'.size; omega⟩
          · have hh' : p.1.isPrefixOf (c :: r) = false := Bool.eq_false_iff.2 hh
            have e1 : Lib.hasPrefix (⟨(c :: r).toArray⟩ : ByteArray).data.toList p.1 = false := hh'
            have e2 : Lib.trimPrefix (⟨(c :: r).toArray⟩ : ByteArray).data.toList p.1 = c :: r := by unfold Lib.trimPrefix; rw [e1]; rfl
            rw [e1, e2] at hcut
            rw [hh'] at hm'
            have HM := Lib.hid hm'
            have HCUT := Lib.hid hcut
            clear hcut hf ht e1 e2 hh hh' hm' hd Hm
            go_wp2_with (first
              | (go_at_call 28; refine (Hway.out _).mono ?_; rintro e w2 ⟨rfl, hb2⟩)
              | (go_at_call 45; refine (HCUT.out _).mono ?_; rintro e w3 ⟨rfl, rfl⟩))
            have hb' : Below wr.heap.size wr w3 := ((Below.refl _ wr).alloc (Nat.le_refl _) _).trans (hb2.mono (by simp))
            go_roundg (10 - (m + 1))
            case measure => omega
            case rel => exact ⟨m + 1, rfl, by go_num, by omega, Nat.le_refl _, HM, bld_below Hbu.out hb', by have := hb'.size; omega, Hbl.out.trans (hb'.mono (by omega))⟩
        · have hltz : ¬ (m : Int) < 10 := by omega
          obtain rfl : m = 10 := by omega
          have hm2 : hit signPairs (c :: r) = none := Hm.out.symm
          have HX := Lib.hid (exE_miss hm2)
          clear hm2 Hm
          have HWB := Lib.hid (Bld.WriteByte_calls w.heap.size w.heap.size (Lib.byteCells out) (c.toNat : Int) _ Hbu.out (by rw [Lib.byteCells_length]; simp only [List.length_cons] at hlen; omega) (by omega))
          go_wp2_with (go_at_call 47; refine HWB.out.mono ?_; rintro e w4 ⟨rfl, hbu4, hb4⟩)
          have hbc : Lib.byteCells out ++ [.int .u8 (c.toNat : Int)] = Lib.byteCells (out ++ [c]) := by simp [Lib.byteCells]
          rw [hbc] at hbu4
          go_roundg r.length
          case measure => simp only [List.length_cons] at hgo; omega
          case rel => exact ⟨r, out ++ [c], congrArg Value.string (ext_cons c r), Nat.le_refl _, by rw [List.length_append]; simp only [List.length_cons, List.length_nil] at hlen ⊢; omega, Lib.hid (HE.out.trans (by rw [HX.out, List.append_assoc]; rfl)), hbu4, by have := hb4.size; omega, Hbl.out.trans hb4⟩

set_option maxRecDepth 100000 in
set_option maxHeartbeats 4000000 in
theorem exchanged_turned (s : ByteArray) (w : World) (hs : s.size ≤ 1000000000000) :
    Calls Try.prog 27 #[.string s, .func (.func 30) #[] #[]] w fun r w' =>
      r = .returned (.string ⟨(exE (turned signPairs) s.data.toList).toArray⟩) ∧ Below w.heap.size w w' := by
  go_enter Try.func27, Try.ntmps27
  go_wp2
  go_step3
  go_wp2
  go_step3
  go_wp2
  have hfr := Bld.fresh w
  have Hfr := Lib.hid hfr
  clear hfr
  go_loopg [0] s.size (fun gg v wr => ∃ (rest out : List UInt8), v = .string ⟨rest.toArray⟩ ∧ rest.length ≤ gg ∧ out.length + 20 * rest.length ≤ 20 * s.size ∧ Hid (exE (turned signPairs) s.data.toList = out ++ exE (turned signPairs) rest) ∧
    Lib.IsBuilder 78 5 w.heap.size w.heap.size (Lib.byteCells out) wr ∧ w.heap.size < wr.heap.size ∧ Below w.heap.size w wr)
  case atStart => exact ⟨s.data.toList, [], by simp, Nat.le_refl _, by have : s.data.toList.length = s.size := rfl; simp only [List.length_nil]; omega, rfl, Hfr.out, by simp, (Below.refl _ _).alloc (by simp) _⟩
  case round =>
    obtain ⟨rest, out, rfl, hgo, hlen, HE, hbu, hsz, hbl⟩ := hrel
    have Hbu := Lib.hid hbu
    clear hbu
    have Hbl := Lib.hid hbl
    clear hbl
    cases rest with
    | nil =>
      have HST := Lib.hid (Try.Builder_String_any w.heap.size w.heap.size out wr Hbu.out (by omega))
      go_wp2_with fail
      refine HST.out.mono ?_
      rintro e w1 ⟨rfl, hb1⟩
      go_wp2
      (try rw [Exit.noGoto_ret])
      go_ret
      refine ⟨?_, Hbl.out.trans hb1⟩
      rw [HE.out, exE_nil, List.append_nil]
      rfl
    | cons c r =>
      have hp := Lib.hid (pairs_calls wr)
      go_wp2_with (go_at_call 44; refine hp.out.mono ?_; rintro e w1 ⟨rfl, hb1⟩)
      have hbu1 := bld_below Hbu.out hb1
      have hbl1 : Below w.heap.size w w1 := Hbl.out.trans (hb1.mono (by omega))
      have hsz1 : w.heap.size < w1.heap.size := by have := hb1.size; omega
      clear hp Hbu Hbl hb1
      have Hbu1 := Lib.hid hbu1
      have Hbl1 := Lib.hid hbl1
      clear hbu1 hbl1
      go_loopg [0, 16] 10 (fun gg v0 v wr' => ∃ (m : Nat), v0 = .string ⟨(c :: r).toArray⟩ ∧ v = .int .i64 m ∧ m ≤ 10 ∧ 10 - m ≤ gg ∧ Hid ((((turned signPairs)).drop m).find? (fun p => p.1.isPrefixOf (c :: r)) = hit (turned signPairs) (c :: r)) ∧
        Lib.IsBuilder 78 5 w.heap.size w.heap.size (Lib.byteCells out) wr' ∧ w.heap.size < wr'.heap.size ∧ Below w.heap.size w wr')
      case atStart => exact ⟨0, rfl, by go_num, by omega, by omega, rfl, Hbu1.out, hsz1, Hbl1.out⟩
      case round =>
        obtain ⟨m, rfl, rfl, hm, hg, Hm, hbu, hsz2, hbl⟩ := hrel
        clear Hbu1 Hbl1 hsz1
        rename_i wr1
        have Hbu := Lib.hid hbu
        clear hbu
        have Hbl := Lib.hid hbl
        clear hbl
        by_cases hlt : m < 10
        · have hltz : (m : Int) < 10 := by omega
          have hix := index_pairs m hlt
          have Hway := Lib.hid (fun w => way1_calls (sg m) (sy m) w)
          obtain ⟨p, hd, hp1, hp2, hf, ht⟩ := at_turned m hlt
          have hm' := Hm.out
          rw [hd, List.find?_cons] at hm'
          have hcut := Try.strings_CutPrefix ⟨(c :: r).toArray⟩ (sy m)
          rw [hf] at hcut
          by_cases hh : p.1.isPrefixOf (c :: r) = true
          · have e1 : Lib.hasPrefix (⟨(c :: r).toArray⟩ : ByteArray).data.toList p.1 = true := hh
            have e2 : Lib.trimPrefix (⟨(c :: r).toArray⟩ : ByteArray).data.toList p.1 = (c :: r).drop p.1.length := by unfold Lib.trimPrefix; rw [e1]; rfl
            rw [e1, e2] at hcut
            rw [hh] at hm'
            have hm2 : hit (turned signPairs) (c :: r) = some p := hm'.symm
            have hx := exE_hit okTurned (List.cons_ne_nil c r) hm2
            have HCUT := Lib.hid hcut
            have HX := Lib.hid hx
            have HF := Lib.hid hf
            have HT := Lib.hid ht
            have hpl := (List.isPrefixOf_iff_prefix.1 hh).length_le
            have hrl : ((c :: r).drop p.1.length).length + p.1.length ≤ r.length + 1 := by
              rw [List.length_drop]; simp only [List.length_cons] at *; omega
            have Hrl := Lib.hid hrl
            clear hcut hx hf ht e1 e2 hh hm' hm2 hd Hm hpl hrl
            generalize (c :: r).drop p.1.length = rest' at HCUT HX Hrl
            have HWS := Lib.hid (fun (w2 : World) (h : Hid (Lib.IsBuilder 78 5 w.heap.size w.heap.size (Lib.byteCells out) w2 ∧ w.heap.size ≤ w2.heap.size)) =>
              Bld.WriteString_calls w.heap.size w.heap.size (Lib.byteCells out) (sg m) w2 h.out.1 (by rw [Lib.byteCells_length]; have : (sg m).size = p.2.length := congrArg List.length HT.out; simp only [List.length_cons] at hlen; omega) h.out.2)
            go_wp2_with (first
              | (go_at_call 30; refine (Hway.out _).mono ?_; rintro e w2 ⟨rfl, hb2⟩)
              | (go_at_call 45; refine (HCUT.out _).mono ?_; rintro e w3 ⟨rfl, rfl⟩)
              | (go_at_call 46; refine (HWS.out _ ?_).mono ?_; rotate_left 1; rintro e w4 ⟨rfl, hbu4, hb4⟩))
            · have hb' : Below wr.heap.size wr w3 := ((Below.refl _ wr).alloc (Nat.le_refl _) _).trans (hb2.mono (by simp))
              have hrl := Hrl.out
              rw [Lib.strCells_eq, HT.out] at hbu4
              have hbc : Lib.byteCells out ++ Lib.byteCells p.2 = Lib.byteCells (out ++ p.2) := by simp [Lib.byteCells]
              rw [hbc] at hbu4
              go_roundg rest'.length
              case measure => simp only [List.length_cons] at hgo; omega
              case rel => exact ⟨rest', out ++ p.2, rfl, Nat.le_refl _, by rw [List.length_append]; simp only [List.length_cons] at hlen; omega, Lib.hid (HE.out.trans (by rw [HX.out, List.append_assoc])), hbu4, by have := hb4.size; have := hb'.size; omega, (Hbl.out.trans (hb'.mono (by omega))).trans hb4⟩
            · have hb' : Below wr.heap.size wr w3 := ((Below.refl _ wr).alloc (Nat.le_refl _) _).trans (hb2.mono (by simp))
              exact Lib.hid ⟨bld_below Hbu.out hb', by have := hb'.size; omega⟩
          · have hh' : p.1.isPrefixOf (c :: r) = false := Bool.eq_false_iff.2 hh
            have e1 : Lib.hasPrefix (⟨(c :: r).toArray⟩ : ByteArray).data.toList p.1 = false := hh'
            have e2 : Lib.trimPrefix (⟨(c :: r).toArray⟩ : ByteArray).data.toList p.1 = c :: r := by unfold Lib.trimPrefix; rw [e1]; rfl
            rw [e1, e2] at hcut
            rw [hh'] at hm'
            have HM := Lib.hid hm'
            have HCUT := Lib.hid hcut
            clear hcut hf ht e1 e2 hh hh' hm' hd Hm
            go_wp2_with (first
              | (go_at_call 30; refine (Hway.out _).mono ?_; rintro e w2 ⟨rfl, hb2⟩)
              | (go_at_call 45; refine (HCUT.out _).mono ?_; rintro e w3 ⟨rfl, rfl⟩))
            have hb' : Below wr.heap.size wr w3 := ((Below.refl _ wr).alloc (Nat.le_refl _) _).trans (hb2.mono (by simp))
            go_roundg (10 - (m + 1))
            case measure => omega
            case rel => exact ⟨m + 1, rfl, by go_num, by omega, Nat.le_refl _, HM, bld_below Hbu.out hb', by have := hb'.size; omega, Hbl.out.trans (hb'.mono (by omega))⟩
        · have hltz : ¬ (m : Int) < 10 := by omega
          obtain rfl : m = 10 := by omega
          have hm2 : hit (turned signPairs) (c :: r) = none := Hm.out.symm
          have HX := Lib.hid (exE_miss hm2)
          clear hm2 Hm
          have HWB := Lib.hid (Bld.WriteByte_calls w.heap.size w.heap.size (Lib.byteCells out) (c.toNat : Int) _ Hbu.out (by rw [Lib.byteCells_length]; simp only [List.length_cons] at hlen; omega) (by omega))
          go_wp2_with (go_at_call 47; refine HWB.out.mono ?_; rintro e w4 ⟨rfl, hbu4, hb4⟩)
          have hbc : Lib.byteCells out ++ [.int .u8 (c.toNat : Int)] = Lib.byteCells (out ++ [c]) := by simp [Lib.byteCells]
          rw [hbc] at hbu4
          go_roundg r.length
          case measure => simp only [List.length_cons] at hgo; omega
          case rel => exact ⟨r, out ++ [c], congrArg Value.string (ext_cons c r), Nat.le_refl _, by rw [List.length_append]; simp only [List.length_cons, List.length_nil] at hlen ⊢; omega, Lib.hid (HE.out.trans (by rw [HX.out, List.append_assoc]; rfl)), hbu4, by have := hb4.size; omega, Hbl.out.trans hb4⟩
end Go.Proofs.Ytmkfeanggmjhmaa.X
