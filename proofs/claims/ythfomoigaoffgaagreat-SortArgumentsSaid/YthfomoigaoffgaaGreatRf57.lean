/- Walks of the reference of sorts: put, sorts. -/
import Derived.Test.YthfomoigaoffgaaGreatRf2
import Derived.Test.YthfomoigaoffgaaGreatSo15x
import Derived.Test.YthfomoigaoffgaaGreatRf4
namespace Go.Proofs.YthfomoigaoffgaaGreat.Rf
open Go Go.RowKit Go.Proofs.YthfomoigaoffgaaGreat.K Go.Proofs.YthfomoigaoffgaaGreat.G Go.Proofs.YthfomoigaoffgaaGreat.Ix Go.Proofs.YthfomoigaoffgaaGreat.O Go.Proofs.YthfomoigaoffgaaGreat.So
set_option linter.unusedSimpArgs false
set_option linter.unusedVariables false

/-- one more string, laid in a block of its own, at the end -/
theorem push_str {base : Nat} {w : World} {v : Value} {xs : List ByteArray} (h : Mine str base (fun _ => False) w v xs) (s : ByteArray) (hl : xs.length ≤ 999999) (hbase : base ≤ w.heap.size) :
    ∃ A' n' c' w', (Builtin.append_ #[27, 27] 27 #[v, .slice (some ⟨w.heap.size, 0, none⟩) 1 1]).run Tryz.prog (w.alloc (.cells #[.string s] 9)) = .ok (.slice A' n' c') w' ∧ Mine str base (fun _ => False) w' (.slice A' n' c') (xs ++ [s]) ∧ Below base w w' := by
  have hb : Below w.heap.size w (w.alloc (.cells #[.string s] 9)) := (Below.refl _ _).alloc (Nat.le_refl _) _
  have hC : C str (fun _ => True) (w.alloc (.cells #[.string s] 9)) (some ⟨w.heap.size, 0, none⟩) [s] := C.lit [[.string s]] ⟨rfl, trivial⟩ (World.alloc_heap_new w _) trivial (by unfold maxLen; simp)
  obtain ⟨A', n', c', w', h1, h2, h3⟩ := append_str (c := 1) (h.below hb) hC (by simp; omega) (by simp; omega)
  refine ⟨A', n', c', w', h1, h2, ?_⟩
  have hc : Chg (fun k => v.ownBlock = some k) (w.alloc (.cells #[.string s] 9)) w' := Chg.grown h3 (fun k e => .inl e)
  exact (hb.mono hbase).trans (hc.below (by simp; omega) (fun k hk => (h.base_le hk).1))

set_option maxRecDepth 100000 in
set_option maxHeartbeats 2000000 in
theorem put_calls (Sa : Nat → Prop) (A : Option Addr) (c : Nat) (l : List ByteArray) (s : ByteArray) (w : World) (hC : C str Sa w A l) (hl : l.length ≤ 400000) :
    Calls Tryz.prog 76 #[.slice A l.length c, .string s] w fun e w' => ∃ A' n' c', e = .returned (.slice A' n' c') ∧ Mine str w.heap.size (fun _ => False) w' (.slice A' n' c') (put l s) ∧ Below w.heap.size w w' := by
  have HC := Lib.hid hC
  have hlm : l.length ≤ 9223372036854775807 := by omega
  clear hC
  rw [← putR_eq]
  generalize hR : putR s false l = R
  have HR := Lib.hid (show [] ++ putR s false (l.drop 0) = R from hR)
  clear hR
  have hm0 : Mine str w.heap.size (fun _ => False) (w.alloc (.cells #[] 9)) (.slice (some ⟨w.heap.size, 0, none⟩) 0 0) [] :=
    ⟨some ⟨w.heap.size, 0, none⟩, 0, rfl, Nat.le_refl _, Nat.zero_le _, .inr ⟨w.heap.size, 0, rfl, Nat.le_refl _, by simp, fun j hj => absurd hj (by simp), fun j x hj => by simp at hj⟩⟩
  have HM0 := Lib.hid hm0
  have HB0 := Lib.hid (show Below w.heap.size w (w.alloc (.cells #[] 9)) from (Below.refl _ _).alloc (Nat.le_refl _) _)
  have HPS := Lib.hid (fun (W : World) v xs (h : Mine str w.heap.size (fun _ => False) W v xs) s h1 h2 => push_str h s h1 h2)
  clear hm0
  go_enter Tryz.func76, Tryz.ntmps76
  go_wp2
  go_loopg [5, 6, 7] l.length (fun gg v5 v6 v7 wr => ∃ (B : Option Addr) (n cp k : Nat) (d : Bool) (pre : List ByteArray), v5 = .slice B n cp ∧ v6 = .bool d ∧ v7 = .int .i64 k ∧ k ≤ l.length ∧ l.length - k ≤ gg ∧ pre.length ≤ 2 * k ∧ Hid (pre ++ putR s d (l.drop k) = R) ∧ Hid (Mine str w.heap.size (fun _ => False) wr (.slice B n cp) pre) ∧ Hid (Below w.heap.size w wr))
  case atStart => exact ⟨_, _, _, 0, false, [], rfl, rfl, rfl, by omega, by omega, by simp, HR, HM0, HB0⟩
  case round =>
    clear HR HM0 HB0
    obtain ⟨B, n, cp, k, d, pre, rfl, rfl, rfl, hk, hg, hpl, HR, HM, HB⟩ := hrel
    by_cases hlt : k < l.length
    · have hltz : (k : Int) < (l.length : Int) := by omega
      have hk0 : (0 : Int) ≤ (k : Int) := by omega
      have Hlt := Lib.hid hlt
      have HBs := HB.out.size
      obtain ⟨b, o, rfl, _, hbw, qw⟩ := str_at HC.out k hlt
      have q0 := (HB.out.cell (p := ⟨b, o + k, none⟩) hbw).trans qw
      have hr := HR.out
      rw [List.drop_eq_getElem_cons hlt, putR] at hr
      generalize l[k]'hlt = x at q0 hr qw
      have HQ := Lib.hid (fun (W : World) (hb : Below w.heap.size w W) => (hb.cell (p := ⟨b, o + k, none⟩) hbw).trans qw)
      clear qw
      cases d with
      | true =>
        rw [Bool.not_true, Bool.false_and, if_neg (by decide), Bool.true_or, ← List.append_assoc] at hr
        have HR2 := Lib.hid hr
        obtain ⟨A3, n3, c3, w3, hrun, hm3, hb3⟩ := HPS.out wr _ _ HM.out x (by omega) HBs
        have HRun := Lib.hid hrun
        have HM3 := Lib.hid hm3
        have HB3 := Lib.hid (HB.out.trans hb3)
        clear hr HR hrun hm3 hb3
        go_wp2_with (at_builtin; refine Lib.wpList_append_run _ rfl _ _ _ _ rfl _ _ rfl rfl _ _ HRun.out ?_)
        go_roundg (l.length - (k + 1))
        case measure => omega
        case rel => exact ⟨A3, n3, c3, k + 1, true, _, rfl, rfl, by go_num, Hlt.out, Nat.le_refl _, by simp; omega, HR2, HM3, HB3⟩
      | false =>
        rw [Bool.not_false, Bool.true_and, Bool.false_or] at hr
        have HLT := Lib.hid (str_lt x s)
        have HEQ := Lib.hid (str_eq x s)
        cases hls : less x s with
        | true =>
          rw [hls, Bool.not_true, if_neg (by decide), ← List.append_assoc] at hr
          have HR2 := Lib.hid hr
          have hl2 : Op.bytesLess x.toList s.toList = true := HLT.out.trans hls
          obtain ⟨A3, n3, c3, w3, hrun, hm3, hb3⟩ := HPS.out wr _ _ HM.out x (by omega) HBs
          have HRun := Lib.hid hrun
          have HM3 := Lib.hid hm3
          have HB3 := Lib.hid (HB.out.trans hb3)
          clear hr HR hrun hm3 hb3 hls
          go_wp2_with (at_builtin; refine Lib.wpList_append_run _ rfl _ _ _ _ rfl _ _ rfl rfl _ _ HRun.out ?_)
          go_roundg (l.length - (k + 1))
          case measure => omega
          case rel => exact ⟨A3, n3, c3, k + 1, false, _, rfl, rfl, by go_num, Hlt.out, Nat.le_refl _, by simp; omega, HR2, HM3, HB3⟩
        | false =>
          rw [hls, Bool.not_false, if_pos rfl] at hr
          have hl2 : Op.bytesLess x.toList s.toList = false := HLT.out.trans hls
          cases hxs : (x == s) with
          | true =>
            rw [hxs, if_pos rfl, ← List.append_assoc] at hr
            have hx2 : (x.toList == s.toList) = true := HEQ.out.trans hxs
            have hx3 : (x.toList != s.toList) = false := by simp [bne, hx2]
            have HR2 := Lib.hid hr
            obtain ⟨A3, n3, c3, w3, hrun, hm3, hb3⟩ := HPS.out wr _ _ HM.out x (by omega) HBs
            have HRun := Lib.hid hrun
            have HM3 := Lib.hid hm3
            have HB3 := Lib.hid (HB.out.trans hb3)
            clear hr HR hrun hm3 hb3 hls hxs
            go_wp2_with (at_builtin; refine Lib.wpList_append_run _ rfl _ _ _ _ rfl _ _ rfl rfl _ _ HRun.out ?_)
            go_roundg (l.length - (k + 1))
            case measure => omega
            case rel => exact ⟨A3, n3, c3, k + 1, true, _, rfl, rfl, by go_num, Hlt.out, Nat.le_refl _, by simp; omega, HR2, HM3, HB3⟩
          | false =>
            rw [hxs, if_neg (by decide)] at hr
            have hx2 : (x.toList == s.toList) = false := HEQ.out.trans hxs
            have hx3 : (x.toList != s.toList) = true := by simp [bne, hx2]
            have HR2 := Lib.hid (show (pre ++ [s] ++ [x]) ++ putR s true (l.drop (k + 1)) = R by rw [← hr]; simp)
            obtain ⟨A3, n3, c3, w3, hrun, hm3, hb3⟩ := HPS.out wr _ _ HM.out s (by omega) HBs
            have HB3 := Lib.hid (HB.out.trans hb3)
            have q3 := HQ.out w3 HB3.out
            obtain ⟨A4, n4, c4, w4, hrun4, hm4, hb4⟩ := HPS.out w3 _ _ hm3 x (by simp; omega) HB3.out.size
            have HRun := Lib.hid hrun
            have HRun4 := Lib.hid hrun4
            have HM4 := Lib.hid hm4
            have HB4 := Lib.hid (HB3.out.trans hb4)
            clear hr HR hrun hm3 hb3 hls hxs hrun4 hm4 hb4
            have tok1 : True := trivial
            go_wp2_with (first
              | (at_builtin; have _t := tok1; refine Lib.wpList_append_run _ rfl _ _ _ _ rfl _ _ rfl rfl _ _ HRun.out ?_; clear tok1)
              | (at_builtin; refine Lib.wpList_append_run _ rfl _ _ _ _ rfl _ _ rfl rfl _ _ HRun4.out ?_))
            go_roundg (l.length - (k + 1))
            case measure => omega
            case rel => exact ⟨A4, n4, c4, k + 1, true, _, rfl, rfl, by go_num, Hlt.out, Nat.le_refl _, by simp; omega, HR2, HM4, HB4⟩
    · have hltz : ¬ (k : Int) < (l.length : Int) := by omega
      have HBs := HB.out.size
      have hr := HR.out
      rw [List.drop_eq_nil_of_le (by omega)] at hr
      cases d with
      | true =>
        obtain rfl : pre = R := by rw [← hr]; simp [putR]
        clear hr HR
        go_wp2
        go_ret
        exact ⟨_, _, _, rfl, HM.out, HB.out⟩
      | false =>
        obtain rfl : pre ++ [s] = R := hr
        obtain ⟨A3, n3, c3, w3, hrun, hm3, hb3⟩ := HPS.out wr _ _ HM.out s (by omega) HBs
        have HRun := Lib.hid hrun
        have HM3 := Lib.hid hm3
        have HB3 := Lib.hid (HB.out.trans hb3)
        clear HR hrun hm3 hb3
        go_wp2_with (at_builtin; refine Lib.wpList_append_run _ rfl _ _ _ _ rfl _ _ rfl rfl _ _ HRun.out ?_)
        go_ret
        exact ⟨_, _, _, rfl, HM3.out, HB3.out⟩
end Go.Proofs.YthfomoigaoffgaaGreat.Rf
namespace Go.Proofs.YthfomoigaoffgaaGreat.Rf
open Go Go.RowKit Go.Proofs.YthfomoigaoffgaaGreat.K Go.Proofs.YthfomoigaoffgaaGreat.G Go.Proofs.YthfomoigaoffgaaGreat.Ix Go.Proofs.YthfomoigaoffgaaGreat.O Go.Proofs.YthfomoigaoffgaaGreat.So
set_option linter.unusedSimpArgs false
set_option linter.unusedVariables false

theorem put_len : ∀ (l : List ByteArray) (s : ByteArray), (put l s).length ≤ l.length + 1
  | [], _ => by simp [put]
  | x :: r, s => by
    have := put_len r s
    rw [put]
    split
    · simp; omega
    · split <;> simp
theorem kp_thy {w W w' : World} {r : Raw} {T : Thy} (h : Kp w W w') (hT : W.heap[w.heap.size]? = some (.cells (thyC r T) 29 (0, 0))) : w'.heap[w.heap.size]? = some (.cells (thyC r T) 29 (0, 0)) := h.2 _ _ hT
theorem box_drewN {w : World} {g : Nat} {o : Obj} (h : w.heap[g]? = some o) (n : Nat) : (w.drewN n).heap[g]? = some o := h

set_option maxRecDepth 100000 in
set_option maxHeartbeats 4000000 in
theorem least_calls (S Sa : Nat → Prop) (r : Raw) (T : Thy) (A : Option Addr) (c : Nat) (s : List ByteArray) (w : World) (hT : ThyR S w r T) (hR : Right [] T.cls) (hn : T.cls.length ≤ 1000000) (hC : C str Sa w A s) (hk : knownB T.cls s = true) (hl : s.length ≤ 100000) :
    Calls Tryz.prog 53 #[thyV r T, .slice A s.length c] w fun e w' => ∃ A' n' c', e = .returned (.slice A' n' c') ∧ Mine str w.heap.size (fun _ => False) w' (.slice A' n' c') (leastB T.cls s) ∧ Below w.heap.size w w' := by
  have HU := Lib.hid (fun (W : World) (hb : Below w.heap.size w W) a b (ha : a ∈ s) (hb2 : b ∈ s) => (under_calls S r T W (hT.below hb) hR hn a b (known_iff.1 hk a ha) (known_iff.1 hk b hb2)).mono fun _ _ ⟨h1, h2⟩ => And.intro h1 h2)
  have HC := Lib.hid hC
  have hlm : s.length ≤ 9223372036854775807 := by omega
  have HPut := Lib.hid (fun Sa A c l x W h1 h2 => put_calls Sa A c l x W h1 h2)
  clear hC hT hk
  rw [← leastR_eq]
  generalize hR : leastR T.cls s [] s = R
  have HR := Lib.hid (show leastR T.cls s [] (s.drop 0) = R from hR)
  clear hR
  have hag := Tryz.isAgg29
  have hsz := Tryz.sizeOf29
  obtain ⟨W1, hW1⟩ : ∃ W1, w.alloc (.cells (thyC r T) 29) = W1 := ⟨_, rfl⟩
  have hs1 : W1.heap.size = w.heap.size + 1 := by rw [← hW1]; simp
  have hb1 : Below w.heap.size w W1 := by rw [← hW1]; exact (Below.refl _ _).alloc (Nat.le_refl _) _
  obtain ⟨W2, hW2⟩ : ∃ W2, W1.alloc (.cells #[] 9) = W2 := ⟨_, rfl⟩
  have HT2 := Lib.hid (show W2.heap[w.heap.size]? = some (.cells (thyC r T) 29 (0, 0)) by rw [← hW2, ← hW1]; exact (Below.heap_alloc _ _ _ (by simp)).trans (World.alloc_heap_new w _))
  have HB2 := Lib.hid (show Below w.heap.size w W2 by rw [← hW2]; exact hb1.alloc (by omega) _)
  have HM2 : Hid (Mine str w.heap.size (fun _ => False) W2 (.slice (some ⟨w.heap.size + 1, 0, none⟩) 0 0) []) :=
    ⟨some ⟨w.heap.size + 1, 0, none⟩, 0, rfl, Nat.le_refl _, Nat.zero_le _, .inr ⟨w.heap.size + 1, 0, rfl, by omega, by rw [← hW2]; simp; omega, fun j hj => absurd hj (by simp), fun j x hj => by simp at hj⟩⟩
  clear hb1
  unfold thyV thyC at HU
  unfold thyV
  unfold thyC at hW1 ⊢
  go_enter Tryz.func53, Tryz.ntmps53
  go_wp2
  clear hW1 hW2 hs1
  go_loopg [5, 6] s.length (fun gg v5 v6 wr => ∃ (B : Option Addr) (n cp i : Nat) (out : List ByteArray), v5 = .slice B n cp ∧ v6 = .int .i64 i ∧ i ≤ s.length ∧ s.length - i ≤ gg ∧ out.length ≤ i ∧ Hid (leastR T.cls s out (s.drop i) = R) ∧
    Hid (Mine str w.heap.size (fun _ => False) wr (.slice B n cp) out) ∧ Hid (wr.heap[w.heap.size]? = some (.cells (thyC r T) 29 (0, 0))) ∧ Hid (Below w.heap.size w wr))
  case atStart => exact ⟨some ⟨w.heap.size + 1, 0, none⟩, 0, 0, 0, [], by simp, rfl, by omega, by omega, by simp, HR, HM2, HT2, HB2⟩
  case round =>
    clear HR HM2 HT2 HB2
    obtain ⟨B, n, cp, i, out, rfl, rfl, hi, hg, hol, HR, HM, HT, HB⟩ := hrel
    by_cases hlt : i < s.length
    · have hltz : (i : Int) < (s.length : Int) := by omega
      have hi0 : (0 : Int) ≤ (i : Int) := by omega
      have Hlt := Lib.hid hlt
      obtain ⟨b, o, rfl, _, hbw, qw⟩ := str_at HC.out i hlt
      have hmi := List.getElem_mem hlt
      have hr := HR.out
      rw [List.drop_eq_getElem_cons hlt, leastR] at hr
      generalize s[i]'hlt = x at qw hr hmi
      have HQx := Lib.hid (fun (W : World) (hb : Below w.heap.size w W) => (hb.cell (p := ⟨b, o + i, none⟩) hbw).trans qw)
      have Hmi := Lib.hid hmi
      generalize hD : dropB T.cls s x = D at hr
      have HD := Lib.hid (show (false || (s.drop 0).any (fun d => d != x && belowB T.cls d x)) = D from hD)
      have HR2 := Lib.hid hr
      obtain ⟨W0, hW0⟩ : ∃ W0, W0 = wr := ⟨_, rfl⟩
      subst hW0
      clear hr HR qw hmi hD
      go_wp2
      go_loopg [7, 8] s.length (fun gg v7 v8 wr => ∃ (d : Bool) (k : Nat), v7 = .bool d ∧ v8 = .int .i64 k ∧ k ≤ s.length ∧ s.length - k ≤ gg ∧ Hid ((d || (s.drop k).any (fun d => d != x && belowB T.cls d x)) = D) ∧ Hid (Below W0.heap.size W0 wr))
      case atStart => exact ⟨false, 0, rfl, rfl, by omega, by omega, HD, Lib.hid (Below.refl _ _)⟩
      case round =>
        clear HD
        obtain ⟨d, k, rfl, rfl, hk, hgk, HD, HBk⟩ := hrel
        have HBw := Lib.hid (HB.out.trans (HBk.out.mono HB.out.size))
        have HTw := Lib.hid (box_below HT.out HBk.out)
        by_cases hkl : k < s.length
        · have hkz : (k : Int) < (s.length : Int) := by omega
          have hk0 : (0 : Int) ≤ (k : Int) := by omega
          have Hkl := Lib.hid hkl
          have hdd := HD.out
          rw [List.drop_eq_getElem_cons hkl, List.any_cons] at hdd
          obtain ⟨b2, o2, hbb, _, _, qk⟩ := str_at HC.out k hkl
          simp only [Option.some.injEq, Addr.mk.injEq, and_true] at hbb
          obtain ⟨rfl, rfl⟩ := hbb
          have hmk := List.getElem_mem hkl
          generalize s[k]'hkl = y at qk hdd hmk
          have q1 := (HBw.out.cell (p := ⟨b, o + k, none⟩) hbw).trans qk
          have q2 := HQx.out _ HBw.out
          cases d with
          | true =>
            have HD2 := Lib.hid (show (true || (s.drop (k + 1)).any (fun d => d != x && belowB T.cls d x)) = D by rw [← hdd]; rfl)
            clear hdd HD
            go_wp2
            go_quiet (fail)
            go_wp2
            go_roundg (s.length - (k + 1))
            case measure => omega
            case rel => exact ⟨true, k + 1, rfl, by go_num, Hkl.out, Nat.le_refl _, HD2, Lib.hid (below_drewN HBk.out _)⟩
          | false =>
            have HEQ := Lib.hid (str_eq y x)
            cases hyx : (y == x) with
            | true =>
              have hx2 : (y.toList == x.toList) = true := HEQ.out.trans hyx
              have hx3 : (y.toList != x.toList) = false := by simp [bne, hx2]
              have hx4 : (y != x) = false := by simp [bne, hyx]
              rw [hx4, Bool.false_and, Bool.false_or] at hdd
              have HD2 := Lib.hid hdd
              clear hdd HD hyx hx4
              go_wp2
              go_quiet (fail)
              go_wp2
              go_roundg (s.length - (k + 1))
              case measure => omega
              case rel => exact ⟨false, k + 1, rfl, by go_num, Hkl.out, Nat.le_refl _, HD2, Lib.hid (below_drewN HBk.out _)⟩
            | false =>
              have hx2 : (y.toList == x.toList) = false := HEQ.out.trans hyx
              have hx3 : (y.toList != x.toList) = true := by simp [bne, hx2]
              have hx4 : (y != x) = true := by simp [bne, hyx]
              rw [hx4, Bool.true_and, Bool.false_or] at hdd
              have HUx := Lib.hid (fun W hb => HU.out W hb y x hmk Hmi.out)
              generalize belowB T.cls y x = Z at HUx hdd
              have HD2 := Lib.hid hdd
              obtain ⟨x0, x1, x2, x3, x4, x5, x6⟩ := thy_cells' HTw.out
              clear hdd HD hyx hx4
              go_wp2
              go_region_held3 (fun W' => W'.cell? ⟨w.heap.size, 0, none⟩ = some (.string r.nm) ∧ W'.cell? ⟨w.heap.size, 1, none⟩ = some (.slice r.a1 T.cls.length r.c1) ∧ W'.cell? ⟨w.heap.size, 2, none⟩ = some (.slice r.a2 T.tys.length r.c2) ∧ W'.cell? ⟨w.heap.size, 3, none⟩ = some (.slice r.a3 T.ars.length r.c3) ∧
                  W'.cell? ⟨w.heap.size, 4, none⟩ = some (.slice r.a4 r.n4 r.c4) ∧ W'.cell? ⟨w.heap.size, 5, none⟩ = some (.slice r.a5 r.n5 r.c5) ∧ W'.cell? ⟨w.heap.size, 6, none⟩ = some (.slice r.a6 r.n6 r.c6) ∧ W'.cell? ⟨b, o + k, none⟩ = some (.string y) ∧ W'.cell? ⟨b, o + i, none⟩ = some (.string x)) (go_keep)
                (first
                  | (go_at_call 75
                     (with_reducible refine (HUx.out _ ?_).mono ?_)
                     (first | exact HBw.out | exact below_drew1 HBw.out)
                     rintro e w5 ⟨rfl, hb5⟩
                     have HB5 := Lib.hid (HBk.out.trans ((undrew hb5).mono HBk.out.size))
                     obtain ⟨x0, x1, x2, x3, x4, x5, x6⟩ := thy_cells' (box_below HTw.out (undrew hb5))
                     have q1 := (hb5.cell (p := ⟨b, o + k, none⟩) (lt_of_cell q1)).trans q1
                     have q2 := (hb5.cell (p := ⟨b, o + i, none⟩) (lt_of_cell q2)).trans q2
                     clear hb5))
              all_goals
                go_wp2
                go_roundg (s.length - (k + 1))
                case measure => omega
                case rel => exact ⟨Z, k + 1, by simp, by go_num, Hkl.out, Nat.le_refl _, HD2, HB5⟩
        · have hkz : ¬ (k : Int) < (s.length : Int) := by omega
          have hdd := HD.out
          rw [List.drop_eq_nil_of_le (by omega), List.any_nil, Bool.or_false] at hdd
          subst hdd
          have HMw := Lib.hid (HM.out.below HBk.out)
          clear HD
          cases d with
          | true =>
            have HR3 := Lib.hid (show leastR T.cls s out (s.drop (i + 1)) = R from HR2.out)
            clear HR2
            go_wp2
            go_roundg (s.length - (i + 1))
            case measure => omega
            case rel => exact ⟨B, n, cp, i + 1, out, rfl, by go_num, Hlt.out, Nat.le_refl _, by omega, HR3, HMw, HTw, HBw⟩
          | false =>
            have HR3 := Lib.hid (show leastR T.cls s (put out x) (s.drop (i + 1)) = R from HR2.out)
            obtain ⟨rfl, hnc, hCo⟩ := HMw.out.read
            have q2 := HQx.out _ HBw.out
            have HP := Lib.hid (HPut.out _ B cp out x wr hCo (by omega))
            have hpl := put_len out x
            have HBs := Lib.hid HBw.out.size
            clear HR2 hCo
            go_wp2_with fail
            refine HP.out.mono ?_
            rintro e w5 ⟨A5, n5, c5, rfl, hm5, hb5⟩
            have HM5 := Lib.hid (hm5.lower HBs.out)
            have HT5 := Lib.hid (box_below HTw.out hb5)
            have HB5 := Lib.hid (HBw.out.trans (hb5.mono HBs.out))
            clear hm5 hb5
            go_wp2
            go_roundg (s.length - (i + 1))
            case measure => omega
            case rel => exact ⟨A5, n5, c5, i + 1, put out x, rfl, by go_num, Hlt.out, Nat.le_refl _, by omega, HR3, HM5, HT5, HB5⟩
    · have hltz : ¬ (i : Int) < (s.length : Int) := by omega
      have hr := HR.out
      rw [List.drop_eq_nil_of_le (by omega)] at hr
      obtain rfl : out = R := hr
      clear HR
      go_wp2
      go_ret
      exact ⟨_, _, _, rfl, HM.out, HB.out⟩
end Go.Proofs.YthfomoigaoffgaaGreat.Rf
namespace Go.Proofs.YthfomoigaoffgaaGreat.Rf
open Go Go.RowKit Go.Proofs.YthfomoigaoffgaaGreat.K Go.Proofs.YthfomoigaoffgaaGreat.G Go.Proofs.YthfomoigaoffgaaGreat.Ix Go.Proofs.YthfomoigaoffgaaGreat.O Go.Proofs.YthfomoigaoffgaaGreat.So
set_option linter.unusedSimpArgs false
set_option linter.unusedVariables false

theorem classes_small {cs : List Cl} (h : classesE cs = 0) : cs.length ≤ 1000000 := by
  unfold classesE at h
  split at h
  · exact absurd h (by decide)
  · omega
theorem sl_at {S : Nat → Prop} {w : World} {A : Option Addr} {l : List (List ByteArray)} (h : C (slice str) S w A l) (j : Nat) (hj : j < l.length) : ∃ b o A' c', A = some ⟨b, o, none⟩ ∧ b < w.heap.size ∧ w.cell? ⟨b, o + j, none⟩ = some (.slice A' (l[j]'hj).length c') ∧ (l[j]'hj).length ≤ c' ∧ C str S w A' (l[j]'hj) := by
  obtain ⟨b, o, cs, e, _, hb, ⟨A', c', rfl, h1, h2⟩, hc⟩ := h.at_ j hj
  have e1 : (slice str).sz = 1 := rfl
  have := hc 0 _ rfl
  rw [e1, Nat.mul_one, Nat.add_zero] at this
  exact ⟨b, o, A', c', e, hb, this, h1, h2⟩

set_option maxRecDepth 100000 in
set_option maxHeartbeats 2000000 in
theorem sorts_calls (S Sl : Nat → Prop) (r : Raw) (T : Thy) (A : Option Addr) (c : Nat) (ss : List (List ByteArray)) (w : World) (hT : ThyR S w r T) (hC : C (slice str) Sl w A ss) :
    Calls Tryz.prog 26 #[thyV r T, .slice A ss.length c] w fun e w' => e = .returned (.int .i64 (sortsA T.cls ss)) ∧ Below w.heap.size w w' := by
  have HCl := Lib.hid (fun (W : World) (hb : Below w.heap.size w W) => classes_calls S r T W (hT.below hb))
  have HKn := Lib.hid (fun (W : World) (hb : Below w.heap.size w W) Sa A c s hC => known_calls S Sa r T A c s W (hT.below hb) hC)
  have HC := Lib.hid hC
  have hlm : ss.length ≤ 9223372036854775807 := hC.len
  clear hC hT
  unfold sortsA
  have hag := Tryz.isAgg29
  have hsz := Tryz.sizeOf29
  obtain ⟨W1, hW1⟩ : ∃ W1, w.alloc (.cells (thyC r T) 29) = W1 := ⟨_, rfl⟩
  have hT1 : W1.heap[w.heap.size]? = some (.cells (thyC r T) 29 (0, 0)) := by rw [← hW1]; exact World.alloc_heap_new w _
  have HB1 := Lib.hid (show Below w.heap.size w W1 by rw [← hW1]; exact (Below.refl _ _).alloc (Nat.le_refl _) _)
  obtain ⟨y0, y1, y2, y3, y4, y5, y6⟩ := thy_cells' hT1
  have HT1 := Lib.hid hT1
  clear hT1
  unfold thyV thyC at HCl HKn
  unfold thyV
  unfold thyC at hW1 ⊢
  by_cases h0 : classesE T.cls = 0
  · rw [if_neg (fun h => h h0)]
    rw [h0] at HCl
    generalize hR : sortsE T.cls ss = R
    have HR := Lib.hid (show sortsE T.cls (ss.drop 0) = R from hR)
    clear hR h0
    go_enter Tryz.func26, Tryz.ntmps26
    go_wp2_with fail
    refine (HCl.out _ HB1.out).mono ?_
    rintro e w2 ⟨rfl, hb2⟩
    have HB2 := Lib.hid (HB1.out.trans (hb2.mono HB1.out.size))
    have HT2 := Lib.hid (box_below HT1.out hb2)
    clear hb2 hW1 y0 y1 y2 y3 y4 y5 y6 HB1 HT1
    go_wp2
    go_loopg [6] ss.length (fun gg v wr => ∃ i : Nat, v = .int .i64 i ∧ i ≤ ss.length ∧ ss.length - i ≤ gg ∧ Hid (sortsE T.cls (ss.drop i) = R) ∧ Hid (wr.heap[w.heap.size]? = some (.cells (thyC r T) 29 (0, 0))) ∧ Hid (Below w.heap.size w wr))
    case atStart => exact ⟨0, rfl, by omega, by omega, HR, HT2, HB2⟩
    case round =>
      clear HR HT2 HB2
      obtain ⟨i, rfl, hi, hg, HR, HT, HB⟩ := hrel
      by_cases hlt : i < ss.length
      · have hltz : (i : Int) < (ss.length : Int) := by omega
        have hi0 : (0 : Int) ≤ (i : Int) := by omega
        have Hlt := Lib.hid hlt
        obtain ⟨b, o, A', c', rfl, _, q0, hlc, hCs⟩ := sl_at (HC.out.below HB.out) i hlt
        have hr := HR.out
        rw [List.drop_eq_getElem_cons hlt, sortsE] at hr
        generalize ss[i]'hlt = s at q0 hlc hCs hr
        obtain ⟨x0, x1, x2, x3, x4, x5, x6⟩ := thy_cells' HT.out
        by_cases h20 : 20 < s.length
        · rw [if_pos h20] at hr
          subst hr
          have g20 : (20 : Int) < (s.length : Int) := by omega
          clear HR
          go_wp2
          go_ret
          exact ⟨rfl, HB.out⟩
        · rw [if_neg h20] at hr
          have g20 : ¬ (20 : Int) < (s.length : Int) := by omega
          have HCs := Lib.hid hCs
          have HK := Lib.hid (fun (W : World) (hb : Below w.heap.size w W) (hb2 : Below wr.heap.size wr W) => HKn.out W hb _ A' c' s (hCs.below hb2))
          clear hCs HR
          cases hk : knownB T.cls s with
          | true =>
            rw [hk, if_pos rfl] at hr
            rw [hk] at HK
            have HR2 := Lib.hid hr
            clear hr hk
            go_wp2
            go_region_with (go_at_call 51; refine (HK.out _ (below_drew1 HB.out) (below_drew1 (Below.refl _ _))).mono ?_; rintro e w4 ⟨rfl, hb4⟩; have hb4 := undrew hb4; have HB4 := Lib.hid (HB.out.trans (hb4.mono HB.out.size)); have HT4 := Lib.hid (box_below HT.out hb4); clear hb4)
            all_goals
              go_wp2
              go_roundg (ss.length - (i + 1))
              case measure => omega
              case rel => exact ⟨i + 1, by go_num, Hlt.out, Nat.le_refl _, HR2, HT4, HB4⟩
          | false =>
            rw [hk, if_neg (by decide)] at hr
            rw [hk] at HK
            subst hr
            clear hk
            go_wp2
            go_region_with (go_at_call 51; refine (HK.out _ (below_drew1 HB.out) (below_drew1 (Below.refl _ _))).mono ?_; rintro e w4 ⟨rfl, hb4⟩; have hb4 := undrew hb4; have HB4 := Lib.hid (HB.out.trans (hb4.mono HB.out.size)); clear hb4)
            all_goals
              go_wp2
              go_ret
              exact ⟨rfl, HB4.out⟩
      · have hltz : ¬ (i : Int) < (ss.length : Int) := by omega
        have hr := HR.out
        rw [List.drop_eq_nil_of_le (by omega)] at hr
        obtain rfl : (0 : Int) = R := hr
        clear HR
        go_wp2
        go_ret
        exact ⟨rfl, HB.out⟩
  · rw [if_pos h0]
    have g : (classesE T.cls != 0) = true := bne_iff_ne.2 h0
    generalize classesE T.cls = E at HCl g
    clear h0
    go_enter Tryz.func26, Tryz.ntmps26
    go_wp2_with fail
    refine (HCl.out _ HB1.out).mono ?_
    rintro e w2 ⟨rfl, hb2⟩
    have HB2 := Lib.hid (HB1.out.trans (hb2.mono HB1.out.size))
    clear hb2 hW1 y0 y1 y2 y3 y4 y5 y6 HB1 HT1
    go_wp2
    go_ret
    exact ⟨rfl, HB2.out⟩

theorem sorts_ok {cs : List Cl} {ss : List (List ByteArray)} (h : sortsA cs ss = 0) : classesE cs = 0 ∧ ∀ s ∈ ss, knownB cs s = true ∧ s.length ≤ 20 := by
  unfold sortsA at h
  by_cases h0 : classesE cs = 0
  · rw [if_neg (fun h => h h0)] at h
    refine ⟨h0, ?_⟩
    induction ss with
    | nil => exact fun s hs => absurd hs List.not_mem_nil
    | cons x r ih =>
      rw [sortsE] at h
      split at h
      · exact absurd h (by decide)
      · rename_i h1
        split at h
        · rename_i h2
          intro s hs
          rcases List.mem_cons.1 hs with rfl | hs
          · exact ⟨h2, by omega⟩
          · exact ih h s hs
        · exact absurd h (by decide)
  · rw [if_pos h0] at h
    exact absurd h h0

end Go.Proofs.YthfomoigaoffgaaGreat.Rf
