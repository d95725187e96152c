/- Walks of the reference of sorts: put, sorts. -/
import Derived.Test.YthfomoigaoffgaaRf2
import Derived.Test.YthfomoigaoffgaaSo14
namespace Go.Proofs.Ythfomoigaoffgaa.Rf
open Go Go.RowKit Go.Proofs.Ythfomoigaoffgaa.K Go.Proofs.Ythfomoigaoffgaa.G Go.Proofs.Ythfomoigaoffgaa.Ix Go.Proofs.Ythfomoigaoffgaa.O Go.Proofs.Ythfomoigaoffgaa.So
set_option linter.unusedSimpArgs false
set_option linter.unusedVariables false

/-- one more string, laid in a block of its own, at the end -/
theorem push_str {base : Nat} {w : World} {v : Value} {xs : List ByteArray} (h : Mine str base (fun _ => False) w v xs) (s : ByteArray) (hl : xs.length ≤ 999999) (hbase : base ≤ w.heap.size) :
    ∃ A' n' c' w', (Builtin.append_ #[27, 27] 27 #[v, .slice (some ⟨w.heap.size, 0, none⟩) 1 1]).run Try.prog (w.alloc (.cells #[.string s] 9)) = .ok (.slice A' n' c') w' ∧ Mine str base (fun _ => False) w' (.slice A' n' c') (xs ++ [s]) ∧ Below base w w' := by
  have hb : Below w.heap.size w (w.alloc (.cells #[.string s] 9)) := (Below.refl _ _).alloc (Nat.le_refl _) _
  have hC : C str (fun _ => True) (w.alloc (.cells #[.string s] 9)) (some ⟨w.heap.size, 0, none⟩) [s] := C.lit [[.string s]] ⟨rfl, trivial⟩ (World.alloc_heap_new w _) trivial (by unfold maxLen; simp)
  obtain ⟨A', n', c', w', h1, h2, h3⟩ := append_str (c := 1) (h.below hb) hC (by simp; omega) (by simp; omega)
  refine ⟨A', n', c', w', h1, h2, ?_⟩
  have hc : Chg (fun k => v.ownBlock = some k) (w.alloc (.cells #[.string s] 9)) w' := Chg.grown h3 (fun k e => .inl e)
  exact (hb.mono hbase).trans (hc.below (by simp; omega) (fun k hk => (h.base_le hk).1))

set_option maxRecDepth 100000 in
set_option maxHeartbeats 2000000 in
theorem put_calls (Sa : Nat → Prop) (A : Option Addr) (c : Nat) (l : List ByteArray) (s : ByteArray) (w : World) (hC : C str Sa w A l) (hl : l.length ≤ 400000) :
    Calls Try.prog 72 #[.slice A l.length c, .string s] w fun e w' => ∃ A' n' c', e = .returned (.slice A' n' c') ∧ Mine str w.heap.size (fun _ => False) w' (.slice A' n' c') (put l s) ∧ Below w.heap.size w w' := by
  have HC := Lib.hid hC
  have hlm : l.length ≤ 9223372036854775807 := by omega
  clear hC
  rw [← putR_eq]
  generalize hR : putR s false l = R
  have HR := Lib.hid (show [] ++ putR s false (l.drop 0) = R from hR)
  clear hR
  have hm0 : Mine str w.heap.size (fun _ => False) (w.alloc (.cells #[] 9)) (.slice (some ⟨w.heap.size, 0, none⟩) 0 0) [] :=
    ⟨some ⟨w.heap.size, 0, none⟩, 0, rfl, Nat.le_refl _, Nat.zero_le _, .inr ⟨w.heap.size, 0, rfl, Nat.le_refl _, by simp, fun j hj => absurd hj (by simp), fun j x hj => by simp at hj⟩⟩
  have HM0 := Lib.hid hm0
  have HB0 := Lib.hid (show Below w.heap.size w (w.alloc (.cells #[] 9)) from (Below.refl _ _).alloc (Nat.le_refl _) _)
  have HPS := Lib.hid (fun (W : World) v xs (h : Mine str w.heap.size (fun _ => False) W v xs) s h1 h2 => push_str h s h1 h2)
  clear hm0
  go_enter Try.func72, Try.ntmps72
  go_wp2
  go_loopg [5, 6, 7] l.length (fun gg v5 v6 v7 wr => ∃ (B : Option Addr) (n cp k : Nat) (d : Bool) (pre : List ByteArray), v5 = .slice B n cp ∧ v6 = .bool d ∧ v7 = .int .i64 k ∧ k ≤ l.length ∧ l.length - k ≤ gg ∧ pre.length ≤ 2 * k ∧ Hid (pre ++ putR s d (l.drop k) = R) ∧ Hid (Mine str w.heap.size (fun _ => False) wr (.slice B n cp) pre) ∧ Hid (Below w.heap.size w wr))
  case atStart => exact ⟨_, _, _, 0, false, [], rfl, rfl, rfl, by omega, by omega, by simp, HR, HM0, HB0⟩
  case round =>
    clear HR HM0 HB0
    obtain ⟨B, n, cp, k, d, pre, rfl, rfl, rfl, hk, hg, hpl, HR, HM, HB⟩ := hrel
    by_cases hlt : k < l.length
    · have hltz : (k : Int) < (l.length : Int) := by omega
      have hk0 : (0 : Int) ≤ (k : Int) := by omega
      have Hlt := Lib.hid hlt
      have HBs := HB.out.size
      obtain ⟨b, o, rfl, _, hbw, qw⟩ := str_at HC.out k hlt
      have q0 := (HB.out.cell (p := ⟨b, o + k, none⟩) hbw).trans qw
      have hr := HR.out
      rw [List.drop_eq_getElem_cons hlt, putR] at hr
      generalize l[k]'hlt = x at q0 hr qw
      have HQ := Lib.hid (fun (W : World) (hb : Below w.heap.size w W) => (hb.cell (p := ⟨b, o + k, none⟩) hbw).trans qw)
      clear qw
      cases d with
      | true =>
        rw [Bool.not_true, Bool.false_and, if_neg (by decide), Bool.true_or, ← List.append_assoc] at hr
        have HR2 := Lib.hid hr
        obtain ⟨A3, n3, c3, w3, hrun, hm3, hb3⟩ := HPS.out wr _ _ HM.out x (by omega) HBs
        have HRun := Lib.hid hrun
        have HM3 := Lib.hid hm3
        have HB3 := Lib.hid (HB.out.trans hb3)
        clear hr HR hrun hm3 hb3
        go_wp2_with (at_builtin; refine Lib.wpList_append_run _ rfl _ _ _ _ rfl _ _ rfl rfl _ _ HRun.out ?_)
        go_roundg (l.length - (k + 1))
        case measure => omega
        case rel => exact ⟨A3, n3, c3, k + 1, true, _, rfl, rfl, by go_num, Hlt.out, Nat.le_refl _, by simp; omega, HR2, HM3, HB3⟩
      | false =>
        rw [Bool.not_false, Bool.true_and, Bool.false_or] at hr
        have HLT := Lib.hid (str_lt x s)
        have HEQ := Lib.hid (str_eq x s)
        cases hls : less x s with
        | true =>
          rw [hls, Bool.not_true, if_neg (by decide), ← List.append_assoc] at hr
          have HR2 := Lib.hid hr
          have hl2 : Op.bytesLess x.toList s.toList = true := HLT.out.trans hls
          obtain ⟨A3, n3, c3, w3, hrun, hm3, hb3⟩ := HPS.out wr _ _ HM.out x (by omega) HBs
          have HRun := Lib.hid hrun
          have HM3 := Lib.hid hm3
          have HB3 := Lib.hid (HB.out.trans hb3)
          clear hr HR hrun hm3 hb3 hls
          go_wp2_with (at_builtin; refine Lib.wpList_append_run _ rfl _ _ _ _ rfl _ _ rfl rfl _ _ HRun.out ?_)
          go_roundg (l.length - (k + 1))
          case measure => omega
          case rel => exact ⟨A3, n3, c3, k + 1, false, _, rfl, rfl, by go_num, Hlt.out, Nat.le_refl _, by simp; omega, HR2, HM3, HB3⟩
        | false =>
          rw [hls, Bool.not_false, if_pos rfl] at hr
          have hl2 : Op.bytesLess x.toList s.toList = false := HLT.out.trans hls
          cases hxs : (x == s) with
          | true =>
            rw [hxs, if_pos rfl, ← List.append_assoc] at hr
            have hx2 : (x.toList == s.toList) = true := HEQ.out.trans hxs
            have hx3 : (x.toList != s.toList) = false := by simp [bne, hx2]
            have HR2 := Lib.hid hr
            obtain ⟨A3, n3, c3, w3, hrun, hm3, hb3⟩ := HPS.out wr _ _ HM.out x (by omega) HBs
            have HRun := Lib.hid hrun
            have HM3 := Lib.hid hm3
            have HB3 := Lib.hid (HB.out.trans hb3)
            clear hr HR hrun hm3 hb3 hls hxs
            go_wp2_with (at_builtin; refine Lib.wpList_append_run _ rfl _ _ _ _ rfl _ _ rfl rfl _ _ HRun.out ?_)
            go_roundg (l.length - (k + 1))
            case measure => omega
            case rel => exact ⟨A3, n3, c3, k + 1, true, _, rfl, rfl, by go_num, Hlt.out, Nat.le_refl _, by simp; omega, HR2, HM3, HB3⟩
          | false =>
            rw [hxs, if_neg (by decide)] at hr
            have hx2 : (x.toList == s.toList) = false := HEQ.out.trans hxs
            have hx3 : (x.toList != s.toList) = true := by simp [bne, hx2]
            have HR2 := Lib.hid (show (pre ++ [s] ++ [x]) ++ putR s true (l.drop (k + 1)) = R by rw [← hr]; simp)
            obtain ⟨A3, n3, c3, w3, hrun, hm3, hb3⟩ := HPS.out wr _ _ HM.out s (by omega) HBs
            have HB3 := Lib.hid (HB.out.trans hb3)
            have q3 := HQ.out w3 HB3.out
            obtain ⟨A4, n4, c4, w4, hrun4, hm4, hb4⟩ := HPS.out w3 _ _ hm3 x (by simp; omega) HB3.out.size
            have HRun := Lib.hid hrun
            have HRun4 := Lib.hid hrun4
            have HM4 := Lib.hid hm4
            have HB4 := Lib.hid (HB3.out.trans hb4)
            clear hr HR hrun hm3 hb3 hls hxs hrun4 hm4 hb4
            have tok1 : True := trivial
            go_wp2_with (first
              | (at_builtin; have _t := tok1; refine Lib.wpList_append_run _ rfl _ _ _ _ rfl _ _ rfl rfl _ _ HRun.out ?_; clear tok1)
              | (at_builtin; refine Lib.wpList_append_run _ rfl _ _ _ _ rfl _ _ rfl rfl _ _ HRun4.out ?_))
            go_roundg (l.length - (k + 1))
            case measure => omega
            case rel => exact ⟨A4, n4, c4, k + 1, true, _, rfl, rfl, by go_num, Hlt.out, Nat.le_refl _, by simp; omega, HR2, HM4, HB4⟩
    · have hltz : ¬ (k : Int) < (l.length : Int) := by omega
      have HBs := HB.out.size
      have hr := HR.out
      rw [List.drop_eq_nil_of_le (by omega)] at hr
      cases d with
      | true =>
        obtain rfl : pre = R := by rw [← hr]; simp [putR]
        clear hr HR
        go_wp2
        go_ret
        exact ⟨_, _, _, rfl, HM.out, HB.out⟩
      | false =>
        obtain rfl : pre ++ [s] = R := hr
        obtain ⟨A3, n3, c3, w3, hrun, hm3, hb3⟩ := HPS.out wr _ _ HM.out s (by omega) HBs
        have HRun := Lib.hid hrun
        have HM3 := Lib.hid hm3
        have HB3 := Lib.hid (HB.out.trans hb3)
        clear HR hrun hm3 hb3
        go_wp2_with (at_builtin; refine Lib.wpList_append_run _ rfl _ _ _ _ rfl _ _ rfl rfl _ _ HRun.out ?_)
        go_ret
        exact ⟨_, _, _, rfl, HM3.out, HB3.out⟩
end Go.Proofs.Ythfomoigaoffgaa.Rf
