/- Walk of Join: the shortest text of tokens. -/
import Derived.Test.YtmkfeanggmjhmaaGreatJ1
namespace Go.Proofs.YtmkfeanggmjhmaaGreat.J
open Go Go.RowKit Go.Shelf Go.Proofs.YtmkfeanggmjhmaaGreatW.PrintWords Go.Proofs.YtmkfeanggmjhmaaGreatW.PrintLast Go.Proofs.YtmkfeanggmjhmaaGreatW.PrintMore
open Go.Proofs.YtmkfeanggmjhmaaGreat.M Go.Proofs.YtmkfeanggmjhmaaGreat.K Go.Proofs.YtmkfeanggmjhmaaGreat.S Go.Proofs.YtmkfeanggmjhmaaGreat.Wr
set_option linter.unusedSimpArgs false
set_option linter.unusedVariables false

def strOf (p : List UInt8 → Bool) (x : Tk) : ByteArray := (writeE p x.1 x.2.1).1
def errOf (p : List UInt8 → Bool) (x : Tk) : Int := (writeE p x.1 x.2.1).2
/-- the error of the first token that can't be written -/
def firstErr (p : List UInt8 → Bool) : List Tk → Int
  | [] => 0
  | x :: r => if errOf p x ≠ 0 then errOf p x else firstErr p r
theorem firstErr_cons (p : List UInt8 → Bool) (x : Tk) (r : List Tk) : firstErr p (x :: r) = if errOf p x ≠ 0 then errOf p x else firstErr p r := rfl
/-- may a text stand behind another one without a space? -/
def okJ (p : List UInt8 → Bool) (all : List Tk) (i : Nat) (out s : ByteArray) : Bool :=
  decide (out.size + s.size ≤ 40000) && (match scanE p (out ++ s) with
    | (xs, none) => sameK (xs.map tk) (all.take (i + 1))
    | _ => false)
def nextJ (p : List UInt8 → Bool) (all : List Tk) (i : Nat) (out s : ByteArray) : ByteArray := if okJ p all i out s then out ++ s else out ++ ⟨#[32]⟩ ++ s
def joinF (p : List UInt8 → Bool) (all : List Tk) : Nat → List ByteArray → ByteArray → ByteArray × Int
  | _, [], out => (out, 0)
  | i, s :: r, out => if 40000 < (nextJ p all i out s).size then (⟨#[]⟩, 7) else joinF p all (i + 1) r (nextJ p all i out s)
def joinE (p : List UInt8 → Bool) (ts : List Tk) : ByteArray × Int :=
  if 1000 < ts.length then (⟨#[]⟩, 5) else if firstErr p ts ≠ 0 then (⟨#[]⟩, firstErr p ts) else joinF p ts 0 (ts.map (strOf p)) ⟨#[]⟩
theorem joinF_cons (p : List UInt8 → Bool) (all : List Tk) (i : Nat) (s : ByteArray) (r : List ByteArray) (out : ByteArray) : joinF p all i (s :: r) out = if 40000 < (nextJ p all i out s).size then (⟨#[]⟩, 7) else joinF p all (i + 1) r (nextJ p all i out s) := rfl
theorem next_space {p : List UInt8 → Bool} {all : List Tk} {i : Nat} {out s : ByteArray} (h : okJ p all i out s = false) : nextJ p all i out s = out ++ ⟨#[32]⟩ ++ s := by unfold nextJ; rw [h]; rfl
theorem next_tight {p : List UInt8 → Bool} {all : List Tk} {i : Nat} {out s : ByteArray} (h : okJ p all i out s = true) : nextJ p all i out s = out ++ s := by unfold nextJ; rw [h]; rfl
theorem space_size (a b : ByteArray) : (a ++ ⟨#[32]⟩ ++ b).size = a.size + 1 + b.size := by
  rw [ByteArray.size_append, ByteArray.size_append]
  rfl
/-- what Join returns -/
def joinAll (l : List ByteArray) (ts : List Tk) : ByteArray × Int := if checkE l ≠ 0 then (⟨#[]⟩, checkE l) else joinE (kwp l) ts

def partsC (p : List UInt8 → Bool) (ts : List Tk) (i : Nat) : Array Value := ((ts.take i).map (fun x => Value.string (strOf p x)) ++ List.replicate (ts.length - i) (Value.string ⟨#[]⟩)).toArray
theorem made_strs (n : Nat) : madeCells (Value.string ⟨#[]⟩).cells n = Array.replicate n (.string ⟨#[]⟩) := by
  unfold madeCells
  apply Array.ext'
  rw [Array.toList_map, Array.toList_replicate, List.eq_replicate_iff]
  refine ⟨by simp, fun b hb => ?_⟩
  obtain ⟨x, _, rfl⟩ := List.mem_map.1 hb
  have e : x % (Value.string ⟨#[]⟩).cells.size = 0 := Nat.mod_one x
  rw [e]
  rfl
theorem partsC_zero (p : List UInt8 → Bool) (ts : List Tk) : partsC p ts 0 = Array.replicate ts.length (.string ⟨#[]⟩) := by
  apply Array.ext'
  rw [Array.toList_replicate]
  simp [partsC]
theorem partsC_size (p : List UInt8 → Bool) (ts : List Tk) (i : Nat) (h : i ≤ ts.length) : (partsC p ts i).size = ts.length := by
  simp only [partsC, List.size_toArray, List.length_append, List.length_map, List.length_take, List.length_replicate]; omega
theorem partsC_set (p : List UInt8 → Bool) (ts : List Tk) (i : Nat) (h : i < ts.length) : (partsC p ts i).setIfInBounds i (.string (strOf p (ts[i]'h))) = partsC p ts (i + 1) := by
  apply Array.ext'
  rw [Array.toList_setIfInBounds]
  obtain ⟨m, hm⟩ : ∃ m, ts.length - i = m + 1 := ⟨ts.length - i - 1, by omega⟩
  have e2 : ts.length - (i + 1) = m := by omega
  have hl : ((ts.take i).map (fun x => Value.string (strOf p x))).length = i := by rw [List.length_map, List.length_take]; omega
  simp only [partsC, hm, e2]
  rw [List.set_append_right _ _ (by rw [hl]; exact Nat.le_refl _), hl, Nat.sub_self, List.replicate_succ, List.set_cons_zero]
  have e3 : ts.take (i + 1) = ts.take i ++ [ts[i]'h] := by rw [List.take_add_one, List.getElem?_eq_getElem h]; rfl
  rw [e3, List.map_append, List.append_assoc]
  rfl
theorem partsC_at (p : List UInt8 → Bool) (ts : List Tk) (i : Nat) (h : i < ts.length) : (partsC p ts ts.length)[i]? = some (.string (strOf p (ts[i]'h))) := by
  simp only [partsC, List.getElem?_toArray, Nat.sub_self, List.replicate_zero, List.append_nil, List.take_length]
  rw [List.getElem?_map, List.getElem?_eq_getElem h]
  rfl
theorem make_strs (p : List UInt8 → Bool) (ts : List Tk) (h : ts.length ≤ 1000) (w : World) : (Instr.makeSlice 22 (.int .i64 (ts.length : Int)) (.int .i64 (ts.length : Int))).run Tryz.prog w = .ok (.slice (some ⟨w.heap.size, 0, none⟩) ts.length ts.length) (w.alloc (.cells (partsC p ts 0) 9)) := by
  obtain ⟨i0, hi, hz0, hz1, hz2⟩ := info_parts Rp.infoString
  have := run_make (P := Tryz.prog) w 22 9 i0 _ Tryz.underlying22 hi hz0 .i64 .i64 (ts.length : Int) (ts.length : Int) (by omega) (Int.le_refl _) (by rw [hz2]; omega) (by omega)
  rw [hz1, Int.toNat_natCast, Nat.mul_one, made_strs] at this
  rw [partsC_zero]
  exact this
theorem write_size (p : List UInt8 → Bool) (k : Int) (t : ByteArray) : (writeE p k t).1.size ≤ 40000 := by
  unfold writeE
  split
  · simp [ByteArray.size]
  · rename_i h
    split
    · split
      · exact Nat.le_of_not_lt h
      · simp [ByteArray.size]
    · simp [ByteArray.size]

set_option maxRecDepth 100000 in
set_option maxHeartbeats 4000000 in
theorem Join_calls (A : Option Addr) (c : Nat) (l : List ByteArray) (hl : ∀ x ∈ l, x.size ≤ 1000000000000) (hc : l.length ≤ c) (B : Option Addr) (d : Nat) (ts : List Tk) (hd : ts.length ≤ d) (hts : ∀ x ∈ ts, x.2.1.size ≤ 1000000) (hn : ts.length ≤ 1000000000) (w : World)
    (hr : Kd.C Kd.string w A l.length l) (hB : CellsK w B ts) :
    Calls Tryz.prog 13 #[.slice A l.length c, .slice B ts.length d] w fun r w' => r = .returned (.tuple #[.string (joinAll l ts).1, .int .i64 (joinAll l ts).2]) ∧ Below w.heap.size w w' := by
  generalize hR : joinAll l ts = R
  unfold joinAll at hR
  have HW := Lib.hid (words_calls A c l hl hc w hr)
  have HB0 := Lib.hid hB
  clear hr hl hB
  unfold WordsEnd at HW
  generalize hE : checkE l = E at HW hR
  clear hE
  by_cases hE0 : E = 0
  · subst hE0
    rw [if_neg (by decide)] at hR
    change Hid (Calls _ _ _ _ (fun r w' => _ ∧ (_ → KwSet w' _ _ (kwp l)) ∧ _)) at HW
    generalize kwp l = p at hR HW
    unfold joinE at hR
    by_cases hbig : 1000 < ts.length
    · rw [if_pos hbig] at hR
      subst hR
      have g : (1000 : Int) < (ts.length : Int) := by omega
      clear hbig
      go_enter Tryz.func13, Tryz.ntmps13
      go_wp2_with fail
      refine HW.out.mono ?_
      rintro e w1 ⟨rfl, _, hb1⟩
      simp only [if_true]
      go_wp2
      go_ret2
      exact ⟨rfl, hb1⟩
    · rw [if_neg hbig] at hR
      have g : ¬ (1000 : Int) < (ts.length : Int) := by omega
      have HR := Lib.hid hR
      have hmk := make_strs p ts (by omega)
      clear hR hbig
      go_enter Tryz.func13, Tryz.ntmps13
      go_wp2_with fail
      refine HW.out.mono ?_
      rintro e w1 ⟨rfl, hk, hb1⟩
      simp only [if_true]
      have HK := Lib.hid (hk trivial)
      have hlt1 := (hk trivial).lt
      have Hb1 := Lib.hid hb1
      have HB1 := Lib.hid (HB0.out.below hb1)
      clear hk hb1
      go_wp2
      go_loopg [33] ts.length (fun gg v wr => ∃ i : Nat, v = .int .i64 i ∧ i ≤ ts.length ∧ ts.length - i ≤ gg ∧ Hid (firstErr p (ts.drop i) = firstErr p ts) ∧ Hid (wr.heap[w1.heap.size]? = some (.cells (partsC p ts i) 9 (0, 0))) ∧ Hid (Below w1.heap.size w1 wr))
      case atStart => exact ⟨0, by go_num, Nat.zero_le _, Nat.le_refl _, rfl, Lib.hid (World.alloc_heap_new _ _), Lib.hid ((Below.refl _ _).alloc (Nat.le_refl _) _)⟩
      case round =>
        obtain ⟨i, rfl, hi, hgg, HF, HP, HBl⟩ := hrel
        clear hmk
        by_cases hlt : i < ts.length
        · have hltz : (i : Int) < (ts.length : Int) := by omega
          have hdr := HF.out
          rw [List.drop_eq_getElem_cons hlt] at hdr
          have hxs := hts _ (List.getElem_mem hlt)
          have hset := partsC_set p ts i hlt
          obtain ⟨g2, rfl, x0, x1, x2⟩ := (HB1.out.below HBl.out).at_ hlt
          generalize ts[i]'hlt = x at hdr x0 x1 x2 hxs hset
          have HKr := HK.out.same (HBl.out.block _ hlt1)
          have hal : Below wr.heap.size wr (wr.alloc (.cells #[.int .i64 x.1, .string x.2.1, .int .i64 x.2.2] 30)) := (Below.refl _ wr).alloc (Nat.le_refl _) _
          have hltr : w.heap.size < wr.heap.size := HKr.lt
          have HKa := HKr.same (hal.block _ hltr)
          have HWR := Lib.hid (write_calls w.heap.size l.length p x.1 x.2.1 x.2.2 _ HKa hxs)
          have hlP := (Array.getElem?_eq_some_iff.1 HP.out).1
          have Hal := Lib.hid hal
          have HSet := Lib.hid hset
          clear HKr HKa hal hset
          rw [firstErr_cons] at hdr
          have HD := Lib.hid hdr
          clear hdr
          change Hid (Calls _ _ _ _ (fun r w' => r = .returned (.tuple #[.string (strOf p x), .int .i64 (errOf p x)]) ∧ _)) at HWR
          go_wp2_with fail
          refine HWR.out.mono ?_
          rintro e5 w5 ⟨rfl, hb5⟩
          have hb6 : Below wr.heap.size wr w5 := Hal.out.trans (hb5.mono (by simp))
          have hP5 := (hb6.block _ hlP).trans HP.out
          have c5 : w5.frozen? ⟨w1.heap.size, i, none⟩ = false := Lib.frozen_of_heap hP5 _
          obtain ⟨v0, hv0⟩ : ∃ v0, w5.cell? ⟨w1.heap.size, i, none⟩ = some v0 := by
            rw [Lib.cell_of_heap hP5, Array.getElem?_eq_getElem (by rw [partsC_size _ _ _ hi]; exact hlt)]
            exact ⟨_, rfl⟩
          have HP5 := Lib.hid hP5
          have Hb6 := Lib.hid hb6
          clear hb5 hb6 hP5 x0 x1 x2
          by_cases he : errOf p x = 0
          · have g5 : (errOf p x != 0) = false := by simp [he]
            have hd2 := HD.out
            rw [if_neg (by rw [he]; decide)] at hd2
            have HD2 := Lib.hid hd2
            clear hd2 HD
            go_wp2
            go_roundg (ts.length - (i + 1))
            case measure => omega
            case rel =>
              refine ⟨i + 1, by go_num, by omega, Nat.le_refl _, HD2, Lib.hid ?_, Lib.hid ((HBl.out.trans (Hb6.out.mono HBl.out.size)).setCell (p := ⟨w1.heap.size, i, none⟩) (Nat.le_refl _) _)⟩
              rw [setCell_eq_setRow _ _ _ _ _ _ _ HP5.out, HSet.out]
              exact setRow_heap _ _ _ _ _ _ HP5.out
          · have g5 : (errOf p x != 0) = true := by simp [he]
            have hd2 := HD.out
            rw [if_pos he] at hd2
            have hR2 := HR.out
            rw [← hd2, if_pos he] at hR2
            subst hR2
            clear HD hd2 HR
            go_wp2
            go_ret2
            exact ⟨rfl, Hb1.out.trans (((HBl.out.trans (Hb6.out.mono HBl.out.size)).setCell (p := ⟨w1.heap.size, i, none⟩) (Nat.le_refl _) _).mono Hb1.out.size)⟩
        · have hltz : ¬ (i : Int) < (ts.length : Int) := by omega
          obtain rfl : i = ts.length := by omega
          have h0 : 0 = firstErr p ts := by rw [← HF.out, List.drop_length]; rfl
          have hR2 := HR.out
          rw [← h0, if_neg (by decide)] at hR2
          have HR2 := Lib.hid hR2
          have HSC := Lib.hid (fun (s : ByteArray) (W : World) (hk : KwSet W w.heap.size l.length p) (hs : s.size ≤ 1000000000) => scan_calls w.heap.size l.length p s W hk hs)
          have HFo := Lib.hid (fun A c (xs : List Tk) B d us w hA hB ha hb hn hm => follows_calls A c xs B d us w hA hB ha hb hn hm)
          clear hR2 h0 HF HR
          go_wp2
          have hW2 : ∃ W2, W2 = wr := ⟨_, rfl⟩
          obtain ⟨W2, hW2⟩ := hW2
          subst hW2
          go_loopg [11, 53] ts.length (fun gg v11 v53 wr => ∃ (i : Nat) (out : ByteArray), v11 = .string out ∧ v53 = .int .i64 i ∧ i ≤ ts.length ∧ ts.length - i ≤ gg ∧ out.size ≤ 40000 ∧ Hid (joinF p ts i ((ts.drop i).map (strOf p)) out = R) ∧ Hid (Below W2.heap.size W2 wr))
          case atStart => exact ⟨0, ⟨#[]⟩, rfl, by go_num, Nat.zero_le _, Nat.le_refl _, by decide, HR2, Lib.hid (Below.refl _ _)⟩
          case round =>
            obtain ⟨i, out, rfl, rfl, hi2, hgg2, hout, HJ, HB2⟩ := hrel
            clear HR2
            by_cases hlt : i < ts.length
            · have hltz2 : (i : Int) < (ts.length : Int) := by omega
              have hj := HJ.out
              rw [List.drop_eq_getElem_cons hlt, List.map_cons] at hj
              rw [joinF_cons] at hj
              have hpa := partsC_at p ts i hlt
              have hss : (strOf p (ts[i]'hlt)).size ≤ 40000 := write_size p _ _
              have hlP := (Array.getElem?_eq_some_iff.1 HP.out).1
              have z0 : wr.cell? ⟨w1.heap.size, i, none⟩ = some (.string (strOf p (ts[i]'hlt))) := by rw [Lib.cell_of_heap ((HB2.out.block _ hlP).trans HP.out)]; exact hpa
              generalize strOf p (ts[i]'hlt) = s at hj z0 hss hpa
              have hKr : KwSet wr w.heap.size l.length p := (HK.out.same (HBl.out.block _ hlt1)).same (HB2.out.block _ (by have := HBl.out.size; omega))
              have HKr := Lib.hid hKr
              have HJ2 := Lib.hid hj
              clear hj hKr hpa
              by_cases hsz : out.size + s.size ≤ 40000
              · have gsz : (out.size : Int) + (s.size : Int) ≤ 40000 := by omega
                have hszc : (out ++ s).size ≤ 1000000000 := by rw [ByteArray.size_append]; omega
                obtain ⟨g2, rfl, _, _, _⟩ := HB1.out.at_ hlt
                go_wp2_with fail
                refine (HSC.out (out ++ s) _ HKr.out hszc).mono ?_
                rintro e6 w6 ⟨v6, xs, q6, c6, rfl, ho6, hsc6, hb6⟩
                rw [tk_flat] at ho6
                have hlm : (xs.map tk).length = xs.length := List.length_map _
                rw [← hlm] at ho6
                obtain ⟨A6, cp6, rfl, hc6, hx6⟩ := own_cells ho6
                have Hb6 := Lib.hid hb6
                have HX6 := Lib.hid hx6
                clear ho6 hb6 hx6 HKr
                rcases hsc6 with ⟨hsc6, rfl, rfl⟩ | ⟨pre6, q7, hsc6, rfl, rfl⟩
                · have hokv : okJ p ts i out s = sameK (xs.map tk) (ts.take (i + 1)) := by
                    unfold okJ
                    rw [hsc6, decide_eq_true hsz, Bool.true_and]
                  have hxl : xs.length ≤ 1000000000 := by
                    have h1 := (Q.scan_bounds p (out ++ s)).1
                    rw [hsc6] at h1
                    exact Nat.le_trans h1 hszc
                  have htl : (ts.take (i + 1)).length = i + 1 := by rw [List.length_take]; omega
                  have hFF := HFo.out A6 cp6 (xs.map tk) (some ⟨g2, 0, none⟩) d (ts.take (i + 1)) w6 HX6.out (((((HB1.out.below HBl.out).below HB2.out).below Hb6.out)).take (i + 1)) hc6 (by rw [htl]; omega) (by rw [hlm]; exact hxl) (by rw [htl]; omega)
                  rw [htl, hlm] at hFF
                  rw [hlm] at hc6
                  have HFF := Lib.hid hFF
                  clear hsc6 hFF htl
                  rw [hlm]
                  clear hlm
                  have hidz : (i : Int) + 1 ≤ (d : Int) := by omega
                  cases hS : sameK (xs.map tk) (ts.take (i + 1)) with
                  | true =>
                    rw [hS] at HFF hokv
                    have HN := Lib.hid (next_tight hokv)
                    have hj := HJ2.out
                    rw [HN.out, if_neg (by rw [ByteArray.size_append]; omega)] at hj
                    have HJ3 := Lib.hid hj
                    have hsz3 : (out ++ s).size ≤ 40000 := by rw [ByteArray.size_append]; exact hsz
                    have hov2 : ¬ (40000 : Int) < (out.size : Int) + (s.size : Int) := by omega
                    clear hj HJ2 HJ HN hS hokv
                    go_wp2_with (go_at_call 29; refine HFF.out.mono ?_; rintro e7 w7 ⟨rfl, hb7⟩)
                    go_roundg (ts.length - (i + 1))
                    case measure => omega
                    case rel => exact ⟨i + 1, out ++ s, rfl, by go_num, by omega, Nat.le_refl _, hsz3, HJ3, Lib.hid ((HB2.out.trans (Hb6.out.mono HB2.out.size)).trans (hb7.mono (by have := HB2.out.size; have := Hb6.out.size; omega)))⟩
                  | false =>
                    rw [hS] at HFF hokv
                    have HN := Lib.hid (next_space hokv)
                    by_cases hov : 40000 < out.size + 1 + s.size
                    · have hov2 : (40000 : Int) < (out.size : Int) + 1 + (s.size : Int) := by omega
                      have hj := HJ2.out
                      rw [HN.out, if_pos (by rw [space_size]; exact hov)] at hj
                      subst hj
                      clear HJ2 HJ HN
                      go_wp2_with (go_at_call 29; refine HFF.out.mono ?_; rintro e7 w7 ⟨rfl, hb7⟩)
                      go_ret2
                      exact ⟨rfl, ((((Hb1.out.trans (HBl.out.mono Hb1.out.size)).trans (HB2.out.mono (by have := Hb1.out.size; have := HBl.out.size; omega))).trans (Hb6.out.mono (by have := Hb1.out.size; have := HBl.out.size; have := HB2.out.size; omega))).trans (hb7.mono (by have := Hb1.out.size; have := HBl.out.size; have := HB2.out.size; have := Hb6.out.size; omega)))⟩
                    · have hov2 : ¬ (40000 : Int) < (out.size : Int) + 1 + (s.size : Int) := by omega
                      have hj := HJ2.out
                      rw [HN.out, if_neg (by rw [space_size]; exact hov)] at hj
                      have HJ3 := Lib.hid hj
                      have hsz3 : (out ++ ⟨#[32]⟩ ++ s).size ≤ 40000 := by rw [space_size]; omega
                      clear hj HJ2 HJ HN
                      go_wp2_with (go_at_call 29; refine HFF.out.mono ?_; rintro e7 w7 ⟨rfl, hb7⟩)
                      go_roundg (ts.length - (i + 1))
                      case measure => omega
                      case rel => exact ⟨i + 1, out ++ ⟨#[32]⟩ ++ s, rfl, by go_num, by omega, Nat.le_refl _, hsz3, HJ3, Lib.hid ((HB2.out.trans (Hb6.out.mono HB2.out.size)).trans (hb7.mono (by have := HB2.out.size; have := Hb6.out.size; omega)))⟩
                · have hcc := ((Q.scan_bounds p (out ++ s)).2.2 q7 c6 (by rw [hsc6])).2
                  have gc : (c6 != 0) = true := by rcases hcc with rfl | rfl | rfl <;> rfl
                  have hokv : okJ p ts i out s = false := by
                    unfold okJ
                    rw [hsc6]
                    simp
                  clear hsc6 hcc
                  have HN := Lib.hid (next_space hokv)
                  by_cases hov : 40000 < out.size + 1 + s.size
                  · have hov2 : (40000 : Int) < (out.size : Int) + 1 + (s.size : Int) := by omega
                    have hj := HJ2.out
                    rw [HN.out, if_pos (by rw [space_size]; exact hov)] at hj
                    subst hj
                    clear HJ2 HJ HN
                    go_wp2
                    go_ret2
                    exact ⟨rfl, (((Hb1.out.trans (HBl.out.mono Hb1.out.size)).trans (HB2.out.mono (by have := Hb1.out.size; have := HBl.out.size; omega))).trans (Hb6.out.mono (by have := Hb1.out.size; have := HBl.out.size; have := HB2.out.size; omega)))⟩
                  · have hov2 : ¬ (40000 : Int) < (out.size : Int) + 1 + (s.size : Int) := by omega
                    have hj := HJ2.out
                    rw [HN.out, if_neg (by rw [space_size]; exact hov)] at hj
                    have HJ3 := Lib.hid hj
                    have hsz3 : (out ++ ⟨#[32]⟩ ++ s).size ≤ 40000 := by rw [space_size]; omega
                    clear hj HJ2 HJ HN
                    go_wp2
                    go_roundg (ts.length - (i + 1))
                    case measure => omega
                    case rel => exact ⟨i + 1, out ++ ⟨#[32]⟩ ++ s, rfl, by go_num, by omega, Nat.le_refl _, hsz3, HJ3, Lib.hid (HB2.out.trans (Hb6.out.mono HB2.out.size))⟩
              · have gsz : ¬ (out.size : Int) + (s.size : Int) ≤ 40000 := by omega
                have hokv : okJ p ts i out s = false := by
                  unfold okJ
                  rw [decide_eq_false hsz]
                  rfl
                have hj := HJ2.out
                rw [next_space hokv, if_pos (by rw [space_size]; omega)] at hj
                subst hj
                clear HJ2 HJ
                go_wp2
                go_ret2
                exact ⟨rfl, ((Hb1.out.trans (HBl.out.mono Hb1.out.size)).trans (HB2.out.mono (by have := Hb1.out.size; have := HBl.out.size; omega)))⟩
            · have hltz2 : ¬ (i : Int) < (ts.length : Int) := by omega
              obtain rfl : i = ts.length := by omega
              have hj := HJ.out
              rw [List.drop_length] at hj
              have hj2 : (out, 0) = R := hj
              subst hj2
              go_wp2
              go_ret2
              exact ⟨rfl, (Hb1.out.trans (HBl.out.mono Hb1.out.size)).trans (HB2.out.mono (by have := Hb1.out.size; have := HBl.out.size; omega))⟩
  · rw [if_pos hE0] at hR
    subst hR
    have g : (E == 0) = false := by simpa using hE0
    have g' : (E != 0) = true := by simpa using hE0
    rw [if_neg hE0] at HW
    clear hE0
    go_enter Tryz.func13, Tryz.ntmps13
    go_wp2_with fail
    refine HW.out.mono ?_
    rintro e w1 ⟨rfl, _, hb1⟩
    go_wp2
    go_ret2
    exact ⟨rfl, hb1⟩
end Go.Proofs.YtmkfeanggmjhmaaGreat.J
