/- Walks of the reference of sorts: least, sorts. -/
import Derived.Test.YthfomoigaoffgaaRf4
import Derived.Test.YthfomoigaoffgaaRf5
namespace Go.Proofs.Ythfomoigaoffgaa.Rf
open Go Go.RowKit Go.Proofs.Ythfomoigaoffgaa.K Go.Proofs.Ythfomoigaoffgaa.G Go.Proofs.Ythfomoigaoffgaa.Ix Go.Proofs.Ythfomoigaoffgaa.O Go.Proofs.Ythfomoigaoffgaa.So
set_option linter.unusedSimpArgs false
set_option linter.unusedVariables false

theorem put_len : ∀ (l : List ByteArray) (s : ByteArray), (put l s).length ≤ l.length + 1
  | [], _ => by simp [put]
  | x :: r, s => by
    have := put_len r s
    rw [put]
    split
    · simp; omega
    · split <;> simp
theorem kp_thy {w W w' : World} {r : Raw} {T : Thy} (h : Kp w W w') (hT : W.heap[w.heap.size]? = some (.cells (thyC r T) 29 (0, 0))) : w'.heap[w.heap.size]? = some (.cells (thyC r T) 29 (0, 0)) := h.2 _ _ hT
theorem box_drewN {w : World} {g : Nat} {o : Obj} (h : w.heap[g]? = some o) (n : Nat) : (w.drewN n).heap[g]? = some o := h

set_option maxRecDepth 100000 in
set_option maxHeartbeats 4000000 in
theorem least_calls (S Sa : Nat → Prop) (r : Raw) (T : Thy) (A : Option Addr) (c : Nat) (s : List ByteArray) (w : World) (hT : ThyR S w r T) (hR : Right [] T.cls) (hn : T.cls.length ≤ 1000000) (hC : C str Sa w A s) (hk : knownB T.cls s = true) (hl : s.length ≤ 100000) :
    Calls Try.prog 36 #[thyV r T, .slice A s.length c] w fun e w' => ∃ A' n' c', e = .returned (.slice A' n' c') ∧ Mine str w.heap.size (fun _ => False) w' (.slice A' n' c') (leastB T.cls s) ∧ Below w.heap.size w w' := by
  have HU := Lib.hid (fun (W : World) (hb : Below w.heap.size w W) a b (ha : a ∈ s) (hb2 : b ∈ s) => (under_calls S r T W (hT.below hb) hR hn a b (known_iff.1 hk a ha) (known_iff.1 hk b hb2)).mono fun _ _ ⟨h1, h2⟩ => And.intro h1 h2)
  have HC := Lib.hid hC
  have hlm : s.length ≤ 9223372036854775807 := by omega
  have HPut := Lib.hid (fun Sa A c l x W h1 h2 => put_calls Sa A c l x W h1 h2)
  clear hC hT hk
  rw [← leastR_eq]
  generalize hR : leastR T.cls s [] s = R
  have HR := Lib.hid (show leastR T.cls s [] (s.drop 0) = R from hR)
  clear hR
  have hag := Try.isAgg29
  have hsz := Try.sizeOf29
  obtain ⟨W1, hW1⟩ : ∃ W1, w.alloc (.cells (thyC r T) 29) = W1 := ⟨_, rfl⟩
  have hs1 : W1.heap.size = w.heap.size + 1 := by rw [← hW1]; simp
  have hb1 : Below w.heap.size w W1 := by rw [← hW1]; exact (Below.refl _ _).alloc (Nat.le_refl _) _
  obtain ⟨W2, hW2⟩ : ∃ W2, W1.alloc (.cells #[] 9) = W2 := ⟨_, rfl⟩
  have HT2 := Lib.hid (show W2.heap[w.heap.size]? = some (.cells (thyC r T) 29 (0, 0)) by rw [← hW2, ← hW1]; exact (Below.heap_alloc _ _ _ (by simp)).trans (World.alloc_heap_new w _))
  have HB2 := Lib.hid (show Below w.heap.size w W2 by rw [← hW2]; exact hb1.alloc (by omega) _)
  have HM2 : Hid (Mine str w.heap.size (fun _ => False) W2 (.slice (some ⟨w.heap.size + 1, 0, none⟩) 0 0) []) :=
    ⟨some ⟨w.heap.size + 1, 0, none⟩, 0, rfl, Nat.le_refl _, Nat.zero_le _, .inr ⟨w.heap.size + 1, 0, rfl, by omega, by rw [← hW2]; simp; omega, fun j hj => absurd hj (by simp), fun j x hj => by simp at hj⟩⟩
  clear hb1
  unfold thyV thyC at HU
  unfold thyV
  unfold thyC at hW1 ⊢
  go_enter Try.func36, Try.ntmps36
  go_wp2
  clear hW1 hW2 hs1
  go_loopg [5, 6] s.length (fun gg v5 v6 wr => ∃ (B : Option Addr) (n cp i : Nat) (out : List ByteArray), v5 = .slice B n cp ∧ v6 = .int .i64 i ∧ i ≤ s.length ∧ s.length - i ≤ gg ∧ out.length ≤ i ∧ Hid (leastR T.cls s out (s.drop i) = R) ∧
    Hid (Mine str w.heap.size (fun _ => False) wr (.slice B n cp) out) ∧ Hid (wr.heap[w.heap.size]? = some (.cells (thyC r T) 29 (0, 0))) ∧ Hid (Below w.heap.size w wr))
  case atStart => exact ⟨some ⟨w.heap.size + 1, 0, none⟩, 0, 0, 0, [], by simp, rfl, by omega, by omega, by simp, HR, HM2, HT2, HB2⟩
  case round =>
    clear HR HM2 HT2 HB2
    obtain ⟨B, n, cp, i, out, rfl, rfl, hi, hg, hol, HR, HM, HT, HB⟩ := hrel
    by_cases hlt : i < s.length
    · have hltz : (i : Int) < (s.length : Int) := by omega
      have hi0 : (0 : Int) ≤ (i : Int) := by omega
      have Hlt := Lib.hid hlt
      obtain ⟨b, o, rfl, _, hbw, qw⟩ := str_at HC.out i hlt
      have hmi := List.getElem_mem hlt
      have hr := HR.out
      rw [List.drop_eq_getElem_cons hlt, leastR] at hr
      generalize s[i]'hlt = x at qw hr hmi
      have HQx := Lib.hid (fun (W : World) (hb : Below w.heap.size w W) => (hb.cell (p := ⟨b, o + i, none⟩) hbw).trans qw)
      have Hmi := Lib.hid hmi
      generalize hD : dropB T.cls s x = D at hr
      have HD := Lib.hid (show (false || (s.drop 0).any (fun d => d != x && belowB T.cls d x)) = D from hD)
      have HR2 := Lib.hid hr
      obtain ⟨W0, hW0⟩ : ∃ W0, W0 = wr := ⟨_, rfl⟩
      subst hW0
      clear hr HR qw hmi hD
      go_wp2
      go_loopg [7, 8] s.length (fun gg v7 v8 wr => ∃ (d : Bool) (k : Nat), v7 = .bool d ∧ v8 = .int .i64 k ∧ k ≤ s.length ∧ s.length - k ≤ gg ∧ Hid ((d || (s.drop k).any (fun d => d != x && belowB T.cls d x)) = D) ∧ Hid (Below W0.heap.size W0 wr))
      case atStart => exact ⟨false, 0, rfl, rfl, by omega, by omega, HD, Lib.hid (Below.refl _ _)⟩
      case round =>
        clear HD
        obtain ⟨d, k, rfl, rfl, hk, hgk, HD, HBk⟩ := hrel
        have HBw := Lib.hid (HB.out.trans (HBk.out.mono HB.out.size))
        have HTw := Lib.hid (box_below HT.out HBk.out)
        by_cases hkl : k < s.length
        · have hkz : (k : Int) < (s.length : Int) := by omega
          have hk0 : (0 : Int) ≤ (k : Int) := by omega
          have Hkl := Lib.hid hkl
          have hdd := HD.out
          rw [List.drop_eq_getElem_cons hkl, List.any_cons] at hdd
          obtain ⟨b2, o2, hbb, _, _, qk⟩ := str_at HC.out k hkl
          simp only [Option.some.injEq, Addr.mk.injEq, and_true] at hbb
          obtain ⟨rfl, rfl⟩ := hbb
          have hmk := List.getElem_mem hkl
          generalize s[k]'hkl = y at qk hdd hmk
          have q1 := (HBw.out.cell (p := ⟨b, o + k, none⟩) hbw).trans qk
          have q2 := HQx.out _ HBw.out
          cases d with
          | true =>
            have HD2 := Lib.hid (show (true || (s.drop (k + 1)).any (fun d => d != x && belowB T.cls d x)) = D by rw [← hdd]; rfl)
            clear hdd HD
            go_wp2
            go_quiet (fail)
            go_wp2
            go_roundg (s.length - (k + 1))
            case measure => omega
            case rel => exact ⟨true, k + 1, rfl, by go_num, Hkl.out, Nat.le_refl _, HD2, Lib.hid (below_drewN HBk.out _)⟩
          | false =>
            have HEQ := Lib.hid (str_eq y x)
            cases hyx : (y == x) with
            | true =>
              have hx2 : (y.toList == x.toList) = true := HEQ.out.trans hyx
              have hx3 : (y.toList != x.toList) = false := by simp [bne, hx2]
              have hx4 : (y != x) = false := by simp [bne, hyx]
              rw [hx4, Bool.false_and, Bool.false_or] at hdd
              have HD2 := Lib.hid hdd
              clear hdd HD hyx hx4
              go_wp2
              go_quiet (fail)
              go_wp2
              go_roundg (s.length - (k + 1))
              case measure => omega
              case rel => exact ⟨false, k + 1, rfl, by go_num, Hkl.out, Nat.le_refl _, HD2, Lib.hid (below_drewN HBk.out _)⟩
            | false =>
              have hx2 : (y.toList == x.toList) = false := HEQ.out.trans hyx
              have hx3 : (y.toList != x.toList) = true := by simp [bne, hx2]
              have hx4 : (y != x) = true := by simp [bne, hyx]
              rw [hx4, Bool.true_and, Bool.false_or] at hdd
              have HUx := Lib.hid (fun W hb => HU.out W hb y x hmk Hmi.out)
              generalize belowB T.cls y x = Z at HUx hdd
              have HD2 := Lib.hid hdd
              obtain ⟨x0, x1, x2, x3, x4, x5, x6⟩ := thy_cells' HTw.out
              clear hdd HD hyx hx4
              go_wp2
              go_region_held3 (fun W' => W'.cell? ⟨w.heap.size, 0, none⟩ = some (.string r.nm) ∧ W'.cell? ⟨w.heap.size, 1, none⟩ = some (.slice r.a1 T.cls.length r.c1) ∧ W'.cell? ⟨w.heap.size, 2, none⟩ = some (.slice r.a2 T.tys.length r.c2) ∧ W'.cell? ⟨w.heap.size, 3, none⟩ = some (.slice r.a3 T.ars.length r.c3) ∧
                  W'.cell? ⟨w.heap.size, 4, none⟩ = some (.slice r.a4 r.n4 r.c4) ∧ W'.cell? ⟨w.heap.size, 5, none⟩ = some (.slice r.a5 r.n5 r.c5) ∧ W'.cell? ⟨w.heap.size, 6, none⟩ = some (.slice r.a6 r.n6 r.c6) ∧ W'.cell? ⟨b, o + k, none⟩ = some (.string y) ∧ W'.cell? ⟨b, o + i, none⟩ = some (.string x)) (go_keep)
                (first
                  | (go_at_call 71
                     (with_reducible refine (HUx.out _ ?_).mono ?_)
                     (first | exact HBw.out | exact below_drew1 HBw.out)
                     rintro e w5 ⟨rfl, hb5⟩
                     have HB5 := Lib.hid (HBk.out.trans ((undrew hb5).mono HBk.out.size))
                     obtain ⟨x0, x1, x2, x3, x4, x5, x6⟩ := thy_cells' (box_below HTw.out (undrew hb5))
                     have q1 := (hb5.cell (p := ⟨b, o + k, none⟩) (lt_of_cell q1)).trans q1
                     have q2 := (hb5.cell (p := ⟨b, o + i, none⟩) (lt_of_cell q2)).trans q2
                     clear hb5))
              all_goals
                go_wp2
                go_roundg (s.length - (k + 1))
                case measure => omega
                case rel => exact ⟨Z, k + 1, by simp, by go_num, Hkl.out, Nat.le_refl _, HD2, HB5⟩
        · have hkz : ¬ (k : Int) < (s.length : Int) := by omega
          have hdd := HD.out
          rw [List.drop_eq_nil_of_le (by omega), List.any_nil, Bool.or_false] at hdd
          subst hdd
          have HMw := Lib.hid (HM.out.below HBk.out)
          clear HD
          cases d with
          | true =>
            have HR3 := Lib.hid (show leastR T.cls s out (s.drop (i + 1)) = R from HR2.out)
            clear HR2
            go_wp2
            go_roundg (s.length - (i + 1))
            case measure => omega
            case rel => exact ⟨B, n, cp, i + 1, out, rfl, by go_num, Hlt.out, Nat.le_refl _, by omega, HR3, HMw, HTw, HBw⟩
          | false =>
            have HR3 := Lib.hid (show leastR T.cls s (put out x) (s.drop (i + 1)) = R from HR2.out)
            obtain ⟨rfl, hnc, hCo⟩ := HMw.out.read
            have q2 := HQx.out _ HBw.out
            have HP := Lib.hid (HPut.out _ B cp out x wr hCo (by omega))
            have hpl := put_len out x
            have HBs := Lib.hid HBw.out.size
            clear HR2 hCo
            go_wp2_with fail
            refine HP.out.mono ?_
            rintro e w5 ⟨A5, n5, c5, rfl, hm5, hb5⟩
            have HM5 := Lib.hid (hm5.lower HBs.out)
            have HT5 := Lib.hid (box_below HTw.out hb5)
            have HB5 := Lib.hid (HBw.out.trans (hb5.mono HBs.out))
            clear hm5 hb5
            go_wp2
            go_roundg (s.length - (i + 1))
            case measure => omega
            case rel => exact ⟨A5, n5, c5, i + 1, put out x, rfl, by go_num, Hlt.out, Nat.le_refl _, by omega, HR3, HM5, HT5, HB5⟩
    · have hltz : ¬ (i : Int) < (s.length : Int) := by omega
      have hr := HR.out
      rw [List.drop_eq_nil_of_le (by omega)] at hr
      obtain rfl : out = R := hr
      clear HR
      go_wp2
      go_ret
      exact ⟨_, _, _, rfl, HM.out, HB.out⟩
end Go.Proofs.Ythfomoigaoffgaa.Rf
