/- Walks of the reference's Check: within, IsNormal. -/
import Derived.Test.YthfomoigaoffgaaGreatRc1
import Derived.Test.YthfomoigaoffgaaGreatRf57
namespace Go.Proofs.YthfomoigaoffgaaGreat.Rc
open Go Go.RowKit Go.Proofs.YthfomoigaoffgaaGreat.K Go.Proofs.YthfomoigaoffgaaGreat.G Go.Proofs.YthfomoigaoffgaaGreat.Ix Go.Proofs.YthfomoigaoffgaaGreat.O Go.Proofs.YthfomoigaoffgaaGreat.So Go.Proofs.YthfomoigaoffgaaGreat.Rf Go.Proofs.YthfomoigaoffgaaGreat.Ch
set_option linter.unusedSimpArgs false
set_option linter.unusedVariables false

set_option maxRecDepth 100000 in
set_option maxHeartbeats 4000000 in
theorem within_calls (S Sa Sb : Nat → Prop) (r : Raw) (T : Thy) (Aa Ab : Option Addr) (ca cb : Nat) (a b : List ByteArray) (w : World) (hT : ThyR S w r T) (hR : Right [] T.cls) (hn : T.cls.length ≤ 1000000) (hCa : C str Sa w Aa a) (hCb : C str Sb w Ab b)
    (ka : knownB T.cls a = true) (kb : knownB T.cls b = true) :
    Calls Tryz.prog 74 #[thyV r T, .slice Aa a.length ca, .slice Ab b.length cb] w fun e w' => e = .returned (.bool (withinB T.cls a b)) ∧ Below w.heap.size w w' := by
  have HU := Lib.hid (fun (W : World) (hb : Below w.heap.size w W) x y (hx : x ∈ a) (hy : y ∈ b) => (under_calls S r T W (hT.below hb) hR hn x y (known_iff.1 ka x hx) (known_iff.1 kb y hy)).mono fun _ _ ⟨h1, h2⟩ => And.intro h1 h2)
  have HCa := Lib.hid hCa
  have HCb := Lib.hid hCb
  have hlma : a.length ≤ 9223372036854775807 := hCa.len
  have hlmb : b.length ≤ 9223372036854775807 := hCb.len
  clear hCa hCb hT ka kb hR
  have hw : withinB T.cls a b = b.all (fun c => a.any (fun d => belowB T.cls d c)) := rfl
  rw [hw]
  generalize hRR : b.all (fun c => a.any (fun d => belowB T.cls d c)) = R
  have HR := Lib.hid (show (b.drop 0).all (fun c => a.any (fun d => belowB T.cls d c)) = R from hRR)
  clear hRR hw
  have hag := Tryz.isAgg29
  have hsz := Tryz.sizeOf29
  obtain ⟨W1, hW1⟩ : ∃ W1, w.alloc (.cells (thyC r T) 29) = W1 := ⟨_, rfl⟩
  have HB1 := Lib.hid (show Below w.heap.size w W1 by rw [← hW1]; exact (Below.refl _ _).alloc (Nat.le_refl _) _)
  have HT1 := Lib.hid (show W1.heap[w.heap.size]? = some (.cells (thyC r T) 29 (0, 0)) by rw [← hW1]; exact World.alloc_heap_new w _)
  unfold thyV thyC at HU
  unfold thyV
  unfold thyC at hW1 ⊢
  go_enter Tryz.func74, Tryz.ntmps74
  go_wp2
  clear hW1
  go_loopg [7] b.length (fun gg v7 wr => ∃ (i : Nat), v7 = .int .i64 i ∧ i ≤ b.length ∧ b.length - i ≤ gg ∧ Hid ((b.drop i).all (fun c => a.any (fun d => belowB T.cls d c)) = R) ∧
    Hid (wr.heap[w.heap.size]? = some (.cells (thyC r T) 29 (0, 0))) ∧ Hid (Below w.heap.size w wr))
  case atStart => exact ⟨0, rfl, by omega, by omega, HR, HT1, HB1⟩
  case round =>
    clear HR HT1 HB1
    obtain ⟨i, rfl, hi, hg, HR, HT, HB⟩ := hrel
    by_cases hlt : i < b.length
    · have hltz : (i : Int) < (b.length : Int) := by omega
      have hi0 : (0 : Int) ≤ (i : Int) := by omega
      have Hlt := Lib.hid hlt
      obtain ⟨bb, ob, rfl, _, hbw, qw⟩ := str_at HCb.out i hlt
      have hmi := List.getElem_mem hlt
      have hr := HR.out
      rw [List.drop_eq_getElem_cons hlt, List.all_cons] at hr
      generalize b[i]'hlt = x at qw hr hmi
      have HQx := Lib.hid (fun (W : World) (hb : Below w.heap.size w W) => (hb.cell (p := ⟨bb, ob + i, none⟩) hbw).trans qw)
      have Hmi := Lib.hid hmi
      generalize hD : a.any (fun d => belowB T.cls d x) = D at hr
      have HD := Lib.hid (show (false || (a.drop 0).any (fun d => belowB T.cls d x)) = D from hD)
      have HR2 := Lib.hid hr
      obtain ⟨W0, hW0⟩ : ∃ W0, W0 = wr := ⟨_, rfl⟩
      subst hW0
      clear hr HR qw hmi hD hbw
      go_wp2
      go_loopg [8, 9] a.length (fun gg v7 v8 wr => ∃ (d : Bool) (k : Nat), v7 = .bool d ∧ v8 = .int .i64 k ∧ k ≤ a.length ∧ a.length - k ≤ gg ∧ Hid ((d || (a.drop k).any (fun d => belowB T.cls d x)) = D) ∧ Hid (Below W0.heap.size W0 wr))
      case atStart => exact ⟨false, 0, rfl, rfl, by omega, by omega, HD, Lib.hid (Below.refl _ _)⟩
      case round =>
        clear HD
        obtain ⟨d, k, rfl, rfl, hk, hgk, HD, HBk⟩ := hrel
        have HBw := Lib.hid (HB.out.trans (HBk.out.mono HB.out.size))
        have HTw := Lib.hid (box_below HT.out HBk.out)
        by_cases hkl : k < a.length
        · have hkz : (k : Int) < (a.length : Int) := by omega
          have hk0 : (0 : Int) ≤ (k : Int) := by omega
          have Hkl := Lib.hid hkl
          have hdd := HD.out
          rw [List.drop_eq_getElem_cons hkl, List.any_cons] at hdd
          obtain ⟨ba, oa, rfl, _, hbw2, qk⟩ := str_at HCa.out k hkl
          have hmk := List.getElem_mem hkl
          generalize a[k]'hkl = y at qk hdd hmk
          have q1 := (HBw.out.cell (p := ⟨ba, oa + k, none⟩) hbw2).trans qk
          have q2 := HQx.out _ HBw.out
          clear hbw2 qk
          cases d with
          | true =>
            have HD2 := Lib.hid (show (true || (a.drop (k + 1)).any (fun d => belowB T.cls d x)) = D by rw [← hdd]; rfl)
            clear hdd HD
            go_wp2
            go_quiet (fail)
            go_wp2
            go_roundg (a.length - (k + 1))
            case measure => omega
            case rel => exact ⟨true, k + 1, rfl, by go_num, Hkl.out, Nat.le_refl _, HD2, Lib.hid (below_drewN HBk.out _)⟩
          | false =>
            rw [Bool.false_or] at hdd
            have HUx := Lib.hid (fun W hb => HU.out W hb y x hmk Hmi.out)
            generalize belowB T.cls y x = Z at HUx hdd
            have HD2 := Lib.hid hdd
            obtain ⟨x0, x1, x2, x3, x4, x5, x6⟩ := thy_cells' HTw.out
            clear hdd HD hmk
            go_wp2
            go_region_held3 (fun W' => W'.cell? ⟨w.heap.size, 0, none⟩ = some (.string r.nm) ∧ W'.cell? ⟨w.heap.size, 1, none⟩ = some (.slice r.a1 T.cls.length r.c1) ∧ W'.cell? ⟨w.heap.size, 2, none⟩ = some (.slice r.a2 T.tys.length r.c2) ∧ W'.cell? ⟨w.heap.size, 3, none⟩ = some (.slice r.a3 T.ars.length r.c3) ∧
                W'.cell? ⟨w.heap.size, 4, none⟩ = some (.slice r.a4 r.n4 r.c4) ∧ W'.cell? ⟨w.heap.size, 5, none⟩ = some (.slice r.a5 r.n5 r.c5) ∧ W'.cell? ⟨w.heap.size, 6, none⟩ = some (.slice r.a6 r.n6 r.c6) ∧ W'.cell? ⟨ba, oa + k, none⟩ = some (.string y) ∧ W'.cell? ⟨bb, ob + i, none⟩ = some (.string x)) (go_keep)
              (first
                | (go_at_call 75
                   (with_reducible refine (HUx.out _ ?_).mono ?_)
                   (first | exact HBw.out | exact below_drew1 HBw.out)
                   rintro e w5 ⟨rfl, hb5⟩
                   have HB5 := Lib.hid (HBk.out.trans ((undrew hb5).mono HBk.out.size))
                   obtain ⟨x0, x1, x2, x3, x4, x5, x6⟩ := thy_cells' (box_below HTw.out (undrew hb5))
                   have q1 := (hb5.cell (p := ⟨ba, oa + k, none⟩) (lt_of_cell q1)).trans q1
                   have q2 := (hb5.cell (p := ⟨bb, ob + i, none⟩) (lt_of_cell q2)).trans q2
                   clear hb5))
            all_goals
              go_wp2
              go_roundg (a.length - (k + 1))
              case measure => omega
              case rel => exact ⟨Z, k + 1, by simp, by go_num, Hkl.out, Nat.le_refl _, HD2, HB5⟩
        · have hkz : ¬ (k : Int) < (a.length : Int) := by omega
          have hdd := HD.out
          rw [List.drop_eq_nil_of_le (by omega), List.any_nil, Bool.or_false] at hdd
          subst hdd
          clear HD
          cases d with
          | true =>
            have HR3 := Lib.hid (show (b.drop (i + 1)).all (fun c => a.any (fun d => belowB T.cls d c)) = R by have := HR2.out; rwa [Bool.true_and] at this)
            clear HR2
            go_wp2
            go_roundg (b.length - (i + 1))
            case measure => omega
            case rel => exact ⟨i + 1, by go_num, Hlt.out, Nat.le_refl _, HR3, HTw, HBw⟩
          | false =>
            obtain rfl : false = R := HR2.out
            clear HR2
            go_wp2
            go_ret
            exact ⟨rfl, HBw.out⟩
    · have hltz : ¬ (i : Int) < (b.length : Int) := by omega
      have hr := HR.out
      rw [List.drop_eq_nil_of_le (by omega), List.all_nil] at hr
      subst hr
      clear HR
      go_wp2
      go_ret
      exact ⟨rfl, HB.out⟩

set_option maxRecDepth 100000 in
set_option maxHeartbeats 4000000 in
theorem IsNormal_calls (S Sa : Nat → Prop) (r : Raw) (T : Thy) (A : Option Addr) (c : Nat) (s : List ByteArray) (w : World) (hT : ThyR S w r T) (hR : Right [] T.cls) (hn : T.cls.length ≤ 1000000) (hC : C str Sa w A s) (hk : knownB T.cls s = true) (hl : s.length ≤ 20) :
    Calls Tryz.prog 72 #[thyV r T, .slice A s.length c] w fun e w' => e = .returned (.bool (decide (s = leastB T.cls s))) ∧ Below w.heap.size w w' := by
  have HK := Lib.hid (fun (W : World) (hb : Below w.heap.size w W) => known_calls S Sa r T A c s W (hT.below hb) (hC.below hb))
  have HL := Lib.hid (fun (W : World) (hb : Below w.heap.size w W) => Rf.least_calls S Sa r T A c s W (hT.below hb) hR hn (hC.below hb) hk (by omega))
  rw [hk] at HK
  have hll := least_len (cs := T.cls) (s := s)
  generalize leastB T.cls s = L at HL hll ⊢
  have HC := Lib.hid hC
  have g20 : ¬ (20 : Int) < (s.length : Int) := by omega
  have hlm : s.length ≤ 9223372036854775807 := by omega
  have hag := Tryz.isAgg29
  have hsz := Tryz.sizeOf29
  obtain ⟨W1, hW1⟩ : ∃ W1, w.alloc (.cells (thyC r T) 29) = W1 := ⟨_, rfl⟩
  have HB1 := Lib.hid (show Below w.heap.size w W1 by rw [← hW1]; exact (Below.refl _ _).alloc (Nat.le_refl _) _)
  have HT1 := Lib.hid (show W1.heap[w.heap.size]? = some (.cells (thyC r T) 29 (0, 0)) by rw [← hW1]; exact World.alloc_heap_new w _)
  obtain ⟨y0, y1, y2, y3, y4, y5, y6⟩ := thy_cells' HT1.out
  clear hT hC hk hR hl
  unfold thyV thyC at HK HL
  unfold thyV
  unfold thyC at hW1 ⊢
  generalize hD : decide (s = L) = D
  have HD := Lib.hid hD
  clear hD
  go_enter Tryz.func72, Tryz.ntmps72
  go_wp2_with fail
  refine (HK.out _ HB1.out).mono ?_
  rintro e w2 ⟨rfl, hb2⟩
  have HB2 := Lib.hid (HB1.out.trans (hb2.mono HB1.out.size))
  have HT2 := Lib.hid (box_below HT1.out hb2)
  clear hb2 hW1 y0 y1 y2 y3 y4 y5 y6 HT1
  obtain ⟨y0, y1, y2, y3, y4, y5, y6⟩ := thy_cells' HT2.out
  go_wp2_with fail
  refine (HL.out _ HB2.out).mono ?_
  rintro e w3 ⟨A', n', c', rfl, hm, hb3⟩
  obtain ⟨rfl, _, hCL⟩ := hm.read
  have HB3 := Lib.hid (HB2.out.trans (hb3.mono HB2.out.size))
  have HCL := Lib.hid hCL
  have hlmL : L.length ≤ 9223372036854775807 := by omega
  clear hb3 hm hCL y0 y1 y2 y3 y4 y5 y6 HT2
  by_cases hls : L.length = s.length
  · have hb : ((L.length : Int) != (s.length : Int)) = false := by simp [hls]
    have Hls := Lib.hid hls
    have HD0 := Lib.hid (show decide (s.drop 0 = L.drop 0) = D from HD.out)
    clear hls HD
    go_wp2
    go_loopg [6] L.length (fun gg v wr => ∃ k : Nat, v = .int .i64 k ∧ k ≤ L.length ∧ L.length - k ≤ gg ∧ Hid (decide (s.drop k = L.drop k) = D) ∧ Hid (Below w3.heap.size w3 wr))
    case atStart => exact ⟨0, rfl, by omega, by omega, HD0, Lib.hid (Below.refl _ _)⟩
    case round =>
      clear HD0
      obtain ⟨k, rfl, hk, hg, HD, HBk⟩ := hrel
      have HBw := Lib.hid (HB3.out.trans (HBk.out.mono HB3.out.size))
      by_cases hlt : k < L.length
      · have hlt2 : k < s.length := by have := Hls.out; omega
        have hltz : (k : Int) < (L.length : Int) := by omega
        have hltz2 : (k : Int) < (s.length : Int) := by omega
        have Hlt := Lib.hid hlt
        obtain ⟨b1, o1, rfl, _, _, q1⟩ := str_at (HC.out.below HBw.out) k hlt2
        obtain ⟨b2, o2, rfl, _, _, q2⟩ := str_at (HCL.out.below HBk.out) k hlt
        have hd := HD.out
        rw [List.drop_eq_getElem_cons hlt, List.drop_eq_getElem_cons hlt2] at hd
        generalize s[k]'hlt2 = x at q1 hd
        generalize L[k]'hlt = y at q2 hd
        have hse := str_eq y x
        cases hq : (y == x) with
        | true =>
          rw [hq] at hse
          have hne : (y.toList != x.toList) = false := by simp [bne, hse]
          have exy : y = x := (beq_iff _ _).1 hq
          have HD2 := Lib.hid (show decide (s.drop (k + 1) = L.drop (k + 1)) = D by
            rw [← hd, exy]
            exact decide_eq_decide.2 ⟨fun e => by rw [e], fun e => (List.cons.inj e).2⟩)
          clear hd HD hq exy
          go_wp2
          go_quiet (fail)
          go_wp2
          go_roundg (L.length - (k + 1))
          case measure => omega
          case rel => exact ⟨k + 1, by go_num, Hlt.out, Nat.le_refl _, HD2, Lib.hid (below_drewN HBk.out _)⟩
        | false =>
          rw [hq] at hse
          have hne : (y.toList != x.toList) = true := by simp [bne, hse]
          obtain rfl : false = D := by
            rw [← hd]
            refine (decide_eq_false fun e => ?_).symm
            have := (List.cons.inj e).1
            rw [this, (beq_iff _ _).2 rfl] at hq
            cases hq
          clear hd HD hq
          go_wp2
          go_quiet (fail)
          go_wp2
          go_ret
          exact ⟨rfl, below_drewN HBw.out _⟩
      · have hltz : ¬ (k : Int) < (L.length : Int) := by omega
        have hd := HD.out
        have hls := Hls.out
        rw [List.drop_eq_nil_of_le (by omega), List.drop_eq_nil_of_le (by omega), decide_eq_true rfl] at hd
        clear hls
        subst hd
        clear HD
        go_wp2
        go_ret
        exact ⟨rfl, HBw.out⟩
  · have hb : ((L.length : Int) != (s.length : Int)) = true := by simp; omega
    obtain rfl : false = D := by rw [← HD.out]; exact (decide_eq_false fun e => hls (by rw [← e])).symm
    clear hls HD
    go_wp2
    go_ret
    exact ⟨rfl, HB3.out⟩
end Go.Proofs.YthfomoigaoffgaaGreat.Rc
