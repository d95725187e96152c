/- Walks: how many bytes tokens have with spaces; whether tokens are alike; the law TokenBack. -/
import Derived.Test.YtmkfeanggmjhmaaGreatJ3
import Derived.Test.YtmkfeanggmjhmaaGreatPl2
namespace Go.Proofs.YtmkfeanggmjhmaaGreat.J
open Go Go.RowKit Go.Shelf Go.Proofs.YtmkfeanggmjhmaaGreatW.PrintWords Go.Proofs.YtmkfeanggmjhmaaGreatW.PrintLast Go.Proofs.YtmkfeanggmjhmaaGreatW.PrintMore
open Go.Proofs.YtmkfeanggmjhmaaGreat.M Go.Proofs.YtmkfeanggmjhmaaGreat.K Go.Proofs.YtmkfeanggmjhmaaGreat.S Go.Proofs.YtmkfeanggmjhmaaGreat.Wr
set_option linter.unusedSimpArgs false
set_option linter.unusedVariables false

theorem sumS_take (p : List UInt8 → Bool) (ts : List Tk) (i : Nat) (h : i < ts.length) : sumS p (ts.take (i + 1)) = sumS p (ts.take i) + (strOf p (ts[i]'h)).size := by
  unfold sumS
  rw [List.take_add_one, List.getElem?_eq_getElem h, List.map_append, List.sum_append]
  simp
theorem sumS_le (p : List UInt8 → Bool) (ts : List Tk) : sumS p ts ≤ 40000 * ts.length := by
  induction ts with
  | nil => exact Nat.le_refl _
  | cons x r ih =>
    have h : sumS p (x :: r) = (strOf p x).size + sumS p r := by unfold sumS; rw [List.map_cons, List.sum_cons]
    have hx : (strOf p x).size ≤ 40000 := write_size p _ _
    rw [h, List.length_cons]
    omega
set_option maxRecDepth 100000 in
set_option maxHeartbeats 4000000 in
theorem spaces_calls (A : Option Addr) (c : Nat) (l : List ByteArray) (hl : ∀ x ∈ l, x.size ≤ 1000000000000) (hc : l.length ≤ c) (B : Option Addr) (d : Nat) (ts : List Tk) (hd : ts.length ≤ d) (hts : ∀ x ∈ ts, x.2.1.size ≤ 1000000) (hn : ts.length ≤ 100000) (w : World)
    (hr : Kd.C Kd.string w A l.length l) (hB : CellsK w B ts) (hck : checkE l = 0) (hg : ∀ x ∈ ts, errOf (kwp l) x = 0) (N : Nat) (hN : N = ts.length - 1 + sumS (kwp l) ts) :
    Calls Tryz.prog 16 #[.slice A l.length c, .slice B ts.length d] w fun r w' => r = .returned (.int .i64 (N : Int)) ∧ Below w.heap.size w w' := by
  have HWR := Lib.hid (fun k t q ht (w : World) hr => Write_calls A c l hl hc k t q ht w hr)
  have hwa : ∀ x ∈ ts, writeAll l x.1 x.2.1 = (strOf (kwp l) x, 0) := fun x hx => by
    unfold writeAll
    rw [if_neg (by simpa using hck)]
    have := hg x hx
    exact Prod.ext rfl this
  have Hwa := Lib.hid hwa
  have Hr := Lib.hid hr
  have HB := Lib.hid hB
  clear hr hB hl hg hwa
  generalize kwp l = p at *
  have hmx : max ((ts.length : Int) - 1) 0 = ((ts.length - 1 : Nat) : Int) := by omega
  go_enter Tryz.func16, Tryz.ntmps16
  go_wp2
  go_loopg [5, 16] ts.length (fun gg v5 v16 wr => ∃ i m : Nat, v5 = .int .i64 m ∧ v16 = .int .i64 i ∧ i ≤ ts.length ∧ ts.length - i ≤ gg ∧ Hid (m = ts.length - 1 + sumS p (ts.take i)) ∧ m ≤ 50000 * 100001 ∧ Hid (Below w.heap.size w wr))
  case atStart => exact ⟨0, ts.length - 1, rfl, by go_num, Nat.zero_le _, Nat.le_refl _, Lib.hid (by simp [sumS]), by omega, Lib.hid (Below.refl _ _)⟩
  case round =>
    obtain ⟨i, m, rfl, rfl, hi, hgg, Hm, hm, HBl⟩ := hrel
    by_cases hlt : i < ts.length
    · have hltz : (i : Int) < (ts.length : Int) := by omega
      have hmem := List.getElem_mem hlt
      have hxs := hts _ hmem
      have hwx := Hwa.out _ hmem
      have hst := sumS_take p ts i hlt
      have hle := sumS_le p (ts.take (i + 1))
      have hss : (strOf p (ts[i]'hlt)).size ≤ 40000 := write_size p _ _
      obtain ⟨g2, rfl, x0, x1, x2⟩ := (HB.out.below HBl.out).at_ hlt
      generalize ts[i]'hlt = x at x0 x1 x2 hxs hwx hst hss hmem
      have hal : Below wr.heap.size wr (wr.alloc (.cells #[.int .i64 x.1, .string x.2.1, .int .i64 x.2.2] 30)) := (Below.refl _ wr).alloc (Nat.le_refl _) _
      have hW := HWR.out x.1 x.2.1 x.2.2 hxs _ (Kd.C_below (Kd.C_below Hr.out HBl.out) hal)
      rw [hwx] at hW
      have HW := Lib.hid hW
      have Hst := Lib.hid hst
      have Hal := Lib.hid hal
      have hm2 : m + (strOf p x).size ≤ 50000 * 100001 := by
        have h1 := Hm.out
        rw [List.length_take] at hle
        omega
      clear hW hwx hst hal hle hmem
      go_wp2_with fail
      refine HW.out.mono ?_
      rintro e w5 ⟨rfl, hb5⟩
      go_wp2
      go_roundg (ts.length - (i + 1))
      case measure => omega
      case rel => exact ⟨i + 1, m + (strOf p x).size, by go_num, by go_num, by omega, Nat.le_refl _, Lib.hid (by rw [Hst.out, Hm.out]; omega), hm2, Lib.hid (HBl.out.trans ((Hal.out.trans (hb5.mono (by simp))).mono HBl.out.size))⟩
    · have hltz : ¬ (i : Int) < (ts.length : Int) := by omega
      obtain rfl : i = ts.length := by omega
      have h1 := Hm.out
      rw [List.take_length, ← hN] at h1
      subst h1
      go_wp2
      go_ret
      exact ⟨rfl, HBl.out⟩

set_option maxRecDepth 100000 in
theorem alike1_calls (x y : Tk) (w : World) : Calls Tryz.prog 32 #[.agg #[.int .i64 x.1, .string x.2.1, .int .i64 x.2.2], .agg #[.int .i64 y.1, .string y.2.1, .int .i64 y.2.2]] w fun r w' =>
    r = .returned (.bool (x.1 == y.1 && (x.2.1.toList == y.2.1.toList))) ∧ Below w.heap.size w w' := by
  have hal : Below w.heap.size w ((w.alloc (.cells #[.int .i64 x.1, .string x.2.1, .int .i64 x.2.2] 30)).alloc (.cells #[.int .i64 y.1, .string y.2.1, .int .i64 y.2.2] 30)) := ((Below.refl _ w).alloc (Nat.le_refl _) _).alloc (by simp) _
  cases hk : (x.1 == y.1) with
  | false =>
    go_enter Tryz.func32, Tryz.ntmps32
    go_wp2
    go_ret
    exact ⟨rfl, hal⟩
  | true =>
    go_enter Tryz.func32, Tryz.ntmps32
    go_wp2
    go_ret
    exact ⟨rfl, hal⟩
theorem sameK_len : ∀ (a b : List Tk), a.length ≠ b.length → sameK a b = false
  | [], [], h => absurd rfl h
  | x :: r, y :: t, h => by
    unfold sameK
    rw [sameK_len r t (fun e => h (by rw [List.length_cons, List.length_cons, e])), Bool.and_false, Bool.and_false]
  | [], y :: t, _ => rfl
  | x :: r, [], _ => rfl

set_option maxRecDepth 100000 in
set_option maxHeartbeats 3000000 in
theorem EqualFunc_calls (A : Option Addr) (c : Nat) (ts : List Tk) (B : Option Addr) (d : Nat) (us : List Tk) (w : World) (hA : CellsK w A ts) (hB : CellsK w B us) (ha : ts.length ≤ c) (hb : us.length ≤ d) (hn : ts.length ≤ 1000000000) (hm : us.length ≤ 1000000000) :
    Calls Tryz.prog 31 #[.slice A ts.length c, .slice B us.length d, .func (.func 32) #[] #[]] w fun r w' => r = .returned (.bool (sameK ts us)) ∧ Below w.heap.size w w' := by
  have HA := Lib.hid hA
  have HB := Lib.hid hB
  have H1 := Lib.hid alike1_calls
  clear hA hB
  generalize hS : sameK ts us = S
  by_cases hle : ts.length = us.length
  · have g0 : ((ts.length : Int) != (us.length : Int)) = false := by simp [hle]
    have hleq : us.length = ts.length := hle.symm
    have HS := Lib.hid hS
    rw [hleq] at g0 hb ⊢
    have Hleq := Lib.hid hleq
    clear hS hle hleq hm
    go_enter Tryz.func31, Tryz.ntmps31
    go_wp2
    go_loopg [17] ts.length (fun gg v wr => ∃ i : Nat, v = .int .i64 i ∧ i ≤ ts.length ∧ ts.length - i ≤ gg ∧ Hid (sameK (ts.drop i) (us.drop i) = S) ∧ Hid (Below w.heap.size w wr))
    case atStart => exact ⟨0, by go_num, Nat.zero_le _, Nat.le_refl _, HS, Lib.hid (Below.refl _ _)⟩
    case round =>
      obtain ⟨i, rfl, hi, hgg, HM, HBl⟩ := hrel
      by_cases hlt : i < ts.length
      · have hltz : (i : Int) < (ts.length : Int) := by omega
        have hlu : i < us.length := by rw [Hleq.out]; exact hlt
        have hdr := HM.out
        rw [List.drop_eq_getElem_cons hlt, List.drop_eq_getElem_cons hlu] at hdr
        obtain ⟨g, rfl, x0, x1, x2⟩ := (HA.out.below HBl.out).at_ hlt
        generalize ts[i]'hlt = x at hdr x0 x1 x2
        have hal : Below wr.heap.size wr (wr.alloc (.cells #[.int .i64 x.1, .string x.2.1, .int .i64 x.2.2] 30)) := (Below.refl _ wr).alloc (Nat.le_refl _) _
        obtain ⟨g2, rfl, y0, y1, y2⟩ := ((HB.out.below HBl.out).below hal).at_ hlu
        generalize us[i]'hlu = y at hdr y0 y1 y2
        clear hlu
        unfold sameK at hdr
        have hal2 : Below wr.heap.size wr ((wr.alloc (.cells #[.int .i64 x.1, .string x.2.1, .int .i64 x.2.2] 30)).alloc (.cells #[.int .i64 y.1, .string y.2.1, .int .i64 y.2.2] 30)) := hal.alloc (by simp) _
        have hnot : ∀ (x : Bool) (w : World), (Op.unary .not (.bool x)).run Tryz.prog w = .ok (.bool (!x)) w := fun _ _ => rfl
        rw [← Bool.and_assoc] at hdr
        have HD := Lib.hid hdr
        have Hal := Lib.hid hal2
        have HX := Lib.hid (fun w => H1.out x y w)
        clear hdr hal hal2
        cases hk : (x.1 == y.1 && (x.2.1.toList == y.2.1.toList)) with
        | false =>
          rw [hk] at HX
          have hd := HD.out
          rw [hk, Bool.false_and] at hd
          subst hd
          clear hk HD
          go_wp2_with (go_at_call 32; refine (HX.out _).mono ?_; rintro e7 w7 ⟨rfl, hb7⟩)
          go_ret
          exact ⟨rfl, HBl.out.trans ((Hal.out.trans (hb7.mono (by simp; omega))).mono HBl.out.size)⟩
        | true =>
          rw [hk] at HX
          have hd := HD.out
          rw [hk, Bool.true_and] at hd
          have HD2 := Lib.hid hd
          clear hk HD hd
          go_wp2_with (go_at_call 32; refine (HX.out _).mono ?_; rintro e7 w7 ⟨rfl, hb7⟩)
          go_roundg (ts.length - (i + 1))
          case measure => omega
          case rel => exact ⟨i + 1, by go_num, by omega, Nat.le_refl _, HD2, Lib.hid (HBl.out.trans ((Hal.out.trans (hb7.mono (by simp; omega))).mono HBl.out.size))⟩
      · have hltz : ¬ (i : Int) < (ts.length : Int) := by omega
        obtain rfl : i = ts.length := by omega
        have h1 : true = S := by
          rw [← HM.out, List.drop_length, ← Hleq.out, List.drop_length]
          rfl
        subst h1
        go_wp2
        go_ret
        exact ⟨rfl, HBl.out⟩
  · have g0 : ((ts.length : Int) != (us.length : Int)) = true := by simp; omega
    rw [sameK_len _ _ hle] at hS
    subst hS
    clear hle
    go_enter Tryz.func31, Tryz.ntmps31
    go_wp2
    go_ret
    exact ⟨rfl, Below.refl _ _⟩
theorem alike_calls (A : Option Addr) (c : Nat) (ts : List Tk) (B : Option Addr) (d : Nat) (us : List Tk) (w : World) (hA : CellsK w A ts) (hB : CellsK w B us) (ha : ts.length ≤ c) (hb : us.length ≤ d) (hn : ts.length ≤ 1000000000) (hm : us.length ≤ 1000000000) :
    Calls Tryz.prog 17 #[.slice A ts.length c, .slice B us.length d] w fun r w' => r = .returned (.bool (sameK ts us)) ∧ Below w.heap.size w w' := by
  have HE := Lib.hid (EqualFunc_calls A c ts B d us w hA hB ha hb hn hm)
  clear hA hB
  generalize sameK ts us = S at HE
  go_enter Tryz.func17, Tryz.ntmps17
  go_wp2_with fail
  refine HE.out.mono ?_
  rintro e w1 ⟨rfl, hb1⟩
  go_wp2
  go_ret
  exact ⟨rfl, hb1⟩
end Go.Proofs.YtmkfeanggmjhmaaGreat.J
