/- Own walks of the reference of tokens: one. -/
import Derived.Test.YtmkfeanggmjhmaaGreatV3
import Derived.Test.YtmkfeanggmjhmaaGreatUa
namespace Go.Proofs.YtmkfeanggmjhmaaGreat.V
open Go Go.RowKit Go.Proofs.YtmkfeanggmjhmaaGreatW.PrintWords Go.Proofs.YtmkfeanggmjhmaaGreatW.PrintLast Go.Proofs.YtmkfeanggmjhmaaGreatW.PrintMore
open Go.Proofs.YtmkfeanggmjhmaaGreat.M Go.Proofs.YtmkfeanggmjhmaaGreat.E Go.Proofs.YtmkfeanggmjhmaaGreat.K Go.Proofs.YtmkfeanggmjhmaaGreat.L Go.Proofs.YtmkfeanggmjhmaaGreat.PTokenWrites
set_option linter.unusedSimpArgs false
set_option linter.unusedVariables false

theorem kstr_at {w : World} {A : Option Addr} {l : List ByteArray} (h : Kd.C Kd.string w A l.length l) (k : Nat) (hk : k < l.length) : ∃ ad, A = some ad ∧ w.cell? (ad.add k) = some (.string (l[k]'hk)) := by
  obtain ⟨ad, e, hc⟩ := Kd.at_string h k (by omega) (by omega)
  refine ⟨ad, e, ?_⟩
  rw [Int.toNat_natCast] at hc
  rw [hc]
  simp [rdOf, hk]

/-- what a keyword changes: nothing, or it is the token -/
theorem kw_round (l : List ByteArray) (s : ByteArray) (i : Nat) (hi : i < s.size) (r : Int × Nat) (hg : L.Good s i r) (hie : i ≤ r.2) (hes : r.2 ≤ s.size) (j : Nat) (hlt : j < l.length) (hkx : kwB (l[j]'hlt) = true) :
    (preAt s i (l[j]'hlt).data.toList = false → kw10 (l.take (j + 1)) s i r = kw10 (l.take j) s i r) ∧
    (preAt s i (l[j]'hlt).data.toList = true → i + (l[j]'hlt).size < r.2 → kw10 (l.take (j + 1)) s i r = kw10 (l.take j) s i r) ∧
    (preAt s i (l[j]'hlt).data.toList = true → r.2 ≤ i + (l[j]'hlt).size → letterB (bt (l[j]'hlt) ((0 : Nat) : Int)) = false → kw10 (l.take (j + 1)) s i r = 10 ∧ i + (l[j]'hlt).size = r.2) ∧
    (preAt s i (l[j]'hlt).data.toList = true → r.2 ≤ i + (l[j]'hlt).size → letterB (bt (l[j]'hlt) ((0 : Nat) : Int)) = true →
      (kw10 (l.take j) s i r = 1 → i + (l[j]'hlt).size = r.2 → kw10 (l.take (j + 1)) s i r = 10) ∧
      (¬ (kw10 (l.take j) s i r = 1 ∧ i + (l[j]'hlt).size = r.2) → kw10 (l.take (j + 1)) s i r = kw10 (l.take j) s i r)) := by
  have hst := kw_step s i hi r hg hie hes (l.take j) (l[j]'hlt)
  rw [← List.take_succ_eq_append_getElem hlt] at hst
  generalize l[j]'hlt = x at hkx hst
  have h0 : 0 < x.size := by
    unfold kwB at hkx
    simp only [Bool.and_eq_true, Bool.not_eq_true', Bool.or_eq_false_iff, decide_eq_false_iff_not] at hkx
    have := hkx.1.1.1.1
    omega
  have hsame : ¬ ((r.1 = 1 ∨ r.1 = 7) ∧ (s.extract i r.2).data.toList = x.data.toList) → kw10 (l.take (j + 1)) s i r = kw10 (l.take j) s i r := fun hn => by rw [hst, if_neg hn]
  have hten : ((r.1 = 1 ∨ r.1 = 7) ∧ (s.extract i r.2).data.toList = x.data.toList) → kw10 (l.take (j + 1)) s i r = 10 := fun hn => by rw [hst, if_pos hn]
  refine ⟨fun hp => hsame (fun h => by rw [(ext_pre hie hes h.2).1] at hp; cases hp), fun hp hlt2 => hsame (fun h => by have := (ext_pre hie hes h.2).2; omega), fun hp hge hl => ?_, fun hp hge hl => ⟨fun hone hez => ?_, fun hno => ?_⟩⟩
  · have hks := kw_sym hi hkx hp hl hg hge
    have hez : i + x.size = r.2 := by rw [hks]
    exact ⟨hten ⟨.inr (by rw [hks]), pre_ext hes hp hez⟩, hez⟩
  · have hr1 : r.1 = 1 := by
      unfold kw10 at hone
      split at hone
      · exact absurd hone (by decide)
      · exact hone
    exact hten ⟨.inl hr1, pre_ext hes hp hez⟩
  · have hb := bt_pre hp 0 h0
    rw [Nat.add_zero] at hb
    have hgl := good_letter hi (by rw [hb]; exact hl) hg
    by_cases hT : (r.1 = 1 ∨ r.1 = 7) ∧ (s.extract i r.2).data.toList = x.data.toList
    · have hr1 : r.1 = 1 := by
        rcases hgl.2 with h | h
        · exact h
        · rcases hT.1 with h' | h'
          · exact h'
          · rw [h] at h'; exact absurd h' (by decide)
      have hez := (ext_pre hie hes hT.2).2
      have hk10 : kw10 (l.take j) s i r = 10 := by
        have hone : ¬ kw10 (l.take j) s i r = 1 := fun h => hno ⟨h, hez⟩
        unfold kw10 at hone ⊢
        split
        · rfl
        · rename_i hn
          rw [if_neg hn] at hone
          exact absurd hr1 hone
      rw [hten hT, hk10]
    · exact hsame hT

set_option maxRecDepth 100000 in
set_option maxHeartbeats 8000000 in
theorem one_calls (A : Option Addr) (c : Nat) (l : List ByteArray) (hll : l.length ≤ 1000000) (hk : ∀ x ∈ l, kwB x = true) (hx : ∀ x ∈ l, x.size ≤ 1000000000) (hc : l.length ≤ c) (s : ByteArray) (hs : s.size ≤ 1000000000) (i : Nat) (hi : i < s.size) (w : World) (hr : Kd.C Kd.string w A l.length l) :
    Calls Tryz.prog 41 #[.slice A l.length c, .string s, .int .i64 i] w fun e w' => e = .returned (tokV (oneP i (oneE (kwL l) s i))) ∧ Below w.heap.size w w' := by
  have hltz : (i : Int) < (s.size : Int) := by omega
  have hx0 := (bt_nat s i hi).symm
  have hu := Tryz.underlying37
  obtain ⟨W1, hW1⟩ : ∃ W1, w.alloc (.cells #[.int .i64 0, .string ⟨#[]⟩, .int .i64 0] 37) = W1 := ⟨_, rfl⟩
  have hB := (show Below w.heap.size w W1 by rw [← hW1]; exact (Below.refl _ _).alloc (Nat.le_refl _) _)
  have HB := Lib.hid hB
  have HH := Lib.hid (show W1.heap[w.heap.size]? = some (.cells #[.int .i64 0, .string ⟨#[]⟩, .int .i64 0] 37 (0, 0)) by rw [← hW1]; exact World.alloc_heap_new w _)
  have hlt1 : w.heap.size < W1.heap.size := by rw [← hW1]; simp
  have HROW := Lib.hid (fun k hk => kstr_at hr k hk)
  generalize hR : oneP i (oneE (kwL l) s i) = R
  have HR := Lib.hid hR
  clear hr hB hR
  by_cases h34 : bt s i = 34
  · have b1 : (bt s i == 34) = true := beq_iff_eq.2 h34
    have HT := Lib.hid (text_calls s hs i hi W1)
    have h := HR.out
    rw [oneE_text h34] at h
    have e : txP i (textE s (i + 1) []) = R := by rw [← h]; cases textE s (i + 1) [] <;> rfl
    rw [e] at HT
    obtain ⟨r1, r2, r3, r4, r5⟩ := R
    clear h34 h e HR HROW
    unfold tokV at HT
    go_enter Tryz.func41, Tryz.ntmps41
    go_wp2_with fail
    refine HT.out.mono ?_
    rintro e w2 ⟨rfl, hb2⟩
    have HB2 := Lib.hid (HB.out.trans (hb2.mono HB.out.size))
    have HH2 := Lib.hid ((hb2.block _ hlt1).trans HH.out)
    clear hb2
    obtain ⟨z0, z1, z2, f0, f1, f2⟩ := tok_cells HH2.out
    go_wp2
    refine bodyPost_ret (results_ctt rfl _ _ w.heap.size 37 _ (0, 0) _ rfl (put3 HH2.out _ _ _) hu rfl (by kernel_rfl)) rfl ?_
    exact ⟨rfl, below3 HB2.out (Nat.le_refl _) _ _ _⟩
  · have b1 : (bt s i == 34) = false := beq_eq_false_iff_ne.2 h34
    have HO := Lib.hid (c_open s i hs (by omega) W1)
    cases hp : preAt s i opened with
    | true =>
      rw [hp] at HO
      have HT := Lib.hid (fun W => quoted_calls s hs i hi hp W)
      have h := HR.out
      rw [oneE_quote h34 hp] at h
      have e : quP i s (nestE s opened closed i 0) = R := by rw [← h]; cases nestE s opened closed i 0 <;> rfl
      rw [e] at HT
      obtain ⟨r1, r2, r3, r4, r5⟩ := R
      clear h34 h e HR hp HROW
      unfold tokV at HT
      go_enter Tryz.func41, Tryz.ntmps41
      go_wp2_with fail
      refine HO.out.mono ?_
      rintro e w2 ⟨rfl, hb2⟩
      have HB2 := Lib.hid (HB.out.trans (hb2.mono HB.out.size))
      have HH2 := Lib.hid ((hb2.block _ hlt1).trans HH.out)
      have hlt2 : w.heap.size < w2.heap.size := by have := hb2.size; omega
      clear hb2
      go_wp2_with fail
      refine (HT.out _).mono ?_
      rintro e w3 ⟨rfl, hb3⟩
      have HB3 := Lib.hid (HB2.out.trans (hb3.mono HB2.out.size))
      have HH3 := Lib.hid ((hb3.block _ hlt2).trans HH2.out)
      clear hb3
      obtain ⟨z0, z1, z2, f0, f1, f2⟩ := tok_cells HH3.out
      go_wp2
      refine bodyPost_ret (results_ctt rfl _ _ w.heap.size 37 _ (0, 0) _ rfl (put3 HH3.out _ _ _) hu rfl (by kernel_rfl)) rfl ?_
      exact ⟨rfl, below3 HB3.out (Nat.le_refl _) _ _ _⟩
    | false =>
      rw [hp] at HO
      have HPl := Lib.hid (fun W => plain_calls s hs i hi W)
      have hg := plain_good s i hi
      have hrg := plain_range s i hi
      have e0 : kw10 ([] : List ByteArray) s i (plainR s i) = (plainR s i).1 := by unfold kw10 kwL; simp
      have hE : endP s i (kw10 l s i (plainR s i)) (plainR s i).2 = R := by
        rw [← HR.out]
        obtain ⟨g1, g2⟩ := hg
        unfold endP
        by_cases he : (plainR s i).2 = i
        · rw [if_pos he, oneE_none h34 hp (k := (bestE s i 4).1) (e := (bestE s i 4).2) rfl (.inl (by rw [← g1]; exact he))]
          rfl
        · have hk1 := g2 he
          rw [if_neg he]
          by_cases hc : (s.extract i (plainR s i).2).data.toList = closed
          · rw [if_pos hc, oneE_none h34 hp (k := (bestE s i 4).1) (e := (bestE s i 4).2) rfl (.inr (by rw [← g1]; exact hc))]
            rfl
          · rw [if_neg hc, oneE_some h34 hp (k := (bestE s i 4).1) (e := (bestE s i 4).2) rfl (by rw [← g1]; exact he) (by rw [← g1]; exact hc)]
            unfold oneP kw10
            rw [← g1, hk1]
      generalize plainR s i = r at HPl hg hrg e0 hE
      have HG := Lib.hid hg
      have HE := Lib.hid hE
      have HE0 := Lib.hid e0
      clear h34 hp hg e0 hE HR
      go_enter Tryz.func41, Tryz.ntmps41
      go_wp2_with fail
      refine HO.out.mono ?_
      rintro e w2 ⟨rfl, hb2⟩
      have HB2 := Lib.hid hb2
      clear hb2
      go_wp2_with fail
      refine (HPl.out _).mono ?_
      rintro e w3 ⟨rfl, hb3⟩
      have HB3 := Lib.hid (HB2.out.trans (hb3.mono HB2.out.size))
      clear hb3
      go_wp2
      go_loopg [9, 10, 11] l.length (fun gg v9 v10 v11 wr => ∃ j : Nat, v9 = .int .i64 (kw10 (l.take j) s i r) ∧ v10 = .int .i64 (r.2 : Int) ∧ v11 = .int .i64 j ∧ j ≤ l.length ∧ l.length - j ≤ gg ∧ Hid (Below W1.heap.size W1 wr))
      case atStart => exact ⟨0, by rw [List.take_zero, HE0.out], rfl, rfl, by omega, by omega, HB3⟩
      case round =>
        clear HB2 HB3 hW1
        obtain ⟨j, rfl, rfl, rfl, hj, hgg, HBr⟩ := hrel
        have HBw := Lib.hid (HB.out.trans (HBr.out.mono HB.out.size))
        by_cases hlt : j < l.length
        · have hjz : (j : Int) < (l.length : Int) := by omega
          obtain ⟨ad, rfl, hcell0⟩ := HROW.out j hlt
          have hcell := (HBw.out.cell (p := ad.add j) (lt_of_cell hcell0)).trans hcell0
          have hkr := kw_round l s i hi r HG.out hrg.1 hrg.2 j hlt (hk _ (List.getElem_mem hlt))
          have hxs := hx _ (List.getElem_mem hlt)
          have h0 : 0 < (l[j]'hlt).size := by
            have hkx := hk _ (List.getElem_mem hlt)
            unfold kwB at hkx
            simp only [Bool.and_eq_true, Bool.not_eq_true', Bool.or_eq_false_iff, decide_eq_false_iff_not] at hkx
            have := hkx.1.1.1.1
            omega
          have Hjl := Lib.hid hlt
          generalize l[j]'hlt = x at hcell hkr hxs h0
          have HS := Lib.hid (c_starts s i x hs (by omega) hxs wr)
          generalize hK' : kw10 (l.take (j + 1)) s i r = K' at hkr
          generalize kw10 (l.take j) s i r = K at hkr
          obtain ⟨k1, k2, k3, k4⟩ := hkr
          cases hp : preAt s i x.data.toList with
          | false =>
            have HKr := Lib.hid (hK'.trans (k1 hp))
            rw [hp] at HS
            clear k1 k2 k3 k4 hp hK'
            go_wp2_with fail
            refine HS.out.mono ?_
            rintro e w4 ⟨rfl, hb4⟩
            have HB4 := Lib.hid (HBr.out.trans (hb4.mono HBr.out.size))
            have hcell4 := (hb4.cell (p := ad.add j) (lt_of_cell hcell)).trans hcell
            clear hb4
            go_wp2
            go_roundg (l.length - (j + 1))
            case measure => omega
            case rel => exact ⟨j + 1, by rw [HKr.out], rfl, by go_num, Hjl.out, Nat.le_refl _, HB4⟩
          | true =>
            rw [hp] at HS
            by_cases hge : r.2 ≤ i + x.size
            · have hgez : (r.2 : Int) ≤ (i : Int) + (x.size : Int) := by omega
              have hxx := (bt_nat x 0 h0).symm
              have h0z : (0 : Int) < (x.size : Int) := by omega
              have HLt := Lib.hid (fun W => c_letter (bt x ((0 : Nat) : Int)) W)
              cases hl : letterB (bt x ((0 : Nat) : Int)) with
              | false =>
                have HKr := Lib.hid (hK'.trans (k3 hp hge hl).1)
                have Hez := Lib.hid (show (i : Int) + (x.size : Int) = (r.2 : Int) by have := (k3 hp hge hl).2; omega)
                rw [hl] at HLt
                clear k1 k2 k3 k4 hp hK' hl
                go_wp2_with fail
                refine HS.out.mono ?_
                rintro e w4 ⟨rfl, hb4⟩
                have HB4 := Lib.hid (HBr.out.trans (hb4.mono HBr.out.size))
                have hcell4 := (hb4.cell (p := ad.add j) (lt_of_cell hcell)).trans hcell
                clear hb4
                go_wp2_with fail
                refine (HLt.out _).mono ?_
                rintro e w5 ⟨rfl, hb5⟩
                have HB5 := Lib.hid (HB4.out.trans (hb5.mono HB4.out.size))
                have hcell5 := (hb5.cell (p := ad.add j) (lt_of_cell hcell4)).trans hcell4
                clear hb5 hcell4
                go_wp2
                go_roundg (l.length - (j + 1))
                case measure => omega
                case rel => exact ⟨j + 1, by rw [HKr.out], congrArg (Value.int IntKind.i64) Hez.out, by go_num, Hjl.out, Nat.le_refl _, HB5⟩
              | true =>
                obtain ⟨m1, m2⟩ := k4 hp hge hl
                rw [hl] at HLt
                by_cases hK1 : K = 1
                · by_cases hez : i + x.size = r.2
                  · have HKr := Lib.hid (hK'.trans (m1 hK1 hez))
                    have Hez := Lib.hid (show (i : Int) + (x.size : Int) = (r.2 : Int) by omega)
                    have b2 : (K == 1) = true := beq_iff_eq.2 hK1
                    have b3 : ((i : Int) + (x.size : Int) == (r.2 : Int)) = true := beq_iff_eq.2 Hez.out
                    clear k1 k2 k3 k4 hp hK' hl m1 m2 hK1
                    go_wp2_with fail
                    refine HS.out.mono ?_
                    rintro e w4 ⟨rfl, hb4⟩
                    have HB4 := Lib.hid (HBr.out.trans (hb4.mono HBr.out.size))
                    have hcell4 := (hb4.cell (p := ad.add j) (lt_of_cell hcell)).trans hcell
                    clear hb4
                    go_wp2_with fail
                    refine (HLt.out _).mono ?_
                    rintro e w5 ⟨rfl, hb5⟩
                    have HB5 := Lib.hid (HB4.out.trans (hb5.mono HB4.out.size))
                    have hcell5 := (hb5.cell (p := ad.add j) (lt_of_cell hcell4)).trans hcell4
                    clear hb5 hcell4
                    go_wp2
                    go_roundg (l.length - (j + 1))
                    case measure => omega
                    case rel => exact ⟨j + 1, by rw [HKr.out], congrArg (Value.int IntKind.i64) Hez.out, by go_num, Hjl.out, Nat.le_refl _, HB5⟩
                  · have HKr := Lib.hid (hK'.trans (m2 (fun h => hez h.2)))
                    have b2 : (K == 1) = true := beq_iff_eq.2 hK1
                    have b3 : ((i : Int) + (x.size : Int) == (r.2 : Int)) = false := beq_eq_false_iff_ne.2 (by omega)
                    clear k1 k2 k3 k4 hp hK' hl m1 m2 hK1
                    go_wp2_with fail
                    refine HS.out.mono ?_
                    rintro e w4 ⟨rfl, hb4⟩
                    have HB4 := Lib.hid (HBr.out.trans (hb4.mono HBr.out.size))
                    have hcell4 := (hb4.cell (p := ad.add j) (lt_of_cell hcell)).trans hcell
                    clear hb4
                    go_wp2_with fail
                    refine (HLt.out _).mono ?_
                    rintro e w5 ⟨rfl, hb5⟩
                    have HB5 := Lib.hid (HB4.out.trans (hb5.mono HB4.out.size))
                    have hcell5 := (hb5.cell (p := ad.add j) (lt_of_cell hcell4)).trans hcell4
                    clear hb5 hcell4
                    go_wp2
                    go_roundg (l.length - (j + 1))
                    case measure => omega
                    case rel => exact ⟨j + 1, by rw [HKr.out], rfl, by go_num, Hjl.out, Nat.le_refl _, HB5⟩
                · have HKr := Lib.hid (hK'.trans (m2 (fun h => hK1 h.1)))
                  have b2 : (K == 1) = false := beq_eq_false_iff_ne.2 hK1
                  clear k1 k2 k3 k4 hp hK' hl m1 m2 hK1
                  go_wp2_with fail
                  refine HS.out.mono ?_
                  rintro e w4 ⟨rfl, hb4⟩
                  have HB4 := Lib.hid (HBr.out.trans (hb4.mono HBr.out.size))
                  have hcell4 := (hb4.cell (p := ad.add j) (lt_of_cell hcell)).trans hcell
                  clear hb4
                  go_wp2_with fail
                  refine (HLt.out _).mono ?_
                  rintro e w5 ⟨rfl, hb5⟩
                  have HB5 := Lib.hid (HB4.out.trans (hb5.mono HB4.out.size))
                  have hcell5 := (hb5.cell (p := ad.add j) (lt_of_cell hcell4)).trans hcell4
                  clear hb5 hcell4
                  go_wp2
                  go_roundg (l.length - (j + 1))
                  case measure => omega
                  case rel => exact ⟨j + 1, by rw [HKr.out], rfl, by go_num, Hjl.out, Nat.le_refl _, HB5⟩
            · have hgez : ¬ (r.2 : Int) ≤ (i : Int) + (x.size : Int) := by omega
              have HKr := Lib.hid (hK'.trans (k2 hp (by omega)))
              clear k1 k2 k3 k4 hp hK'
              go_wp2_with fail
              refine HS.out.mono ?_
              rintro e w4 ⟨rfl, hb4⟩
              have HB4 := Lib.hid (HBr.out.trans (hb4.mono HBr.out.size))
              have hcell4 := (hb4.cell (p := ad.add j) (lt_of_cell hcell)).trans hcell
              clear hb4
              go_wp2
              go_roundg (l.length - (j + 1))
              case measure => omega
              case rel => exact ⟨j + 1, by rw [HKr.out], rfl, by go_num, Hjl.out, Nat.le_refl _, HB4⟩
        · have hjz : ¬ (j : Int) < (l.length : Int) := by omega
          obtain rfl : j = l.length := by omega
          have hE := HE.out
          rw [List.take_length]
          generalize kw10 l s i r = K at hE
          have HHr := Lib.hid ((HBr.out.block _ hlt1).trans HH.out)
          obtain ⟨z0, z1, z2, f0, f1, f2⟩ := tok_cells HHr.out
          unfold endP at hE
          by_cases he : r.2 = i
          · rw [if_pos he] at hE
            subst hE
            have b2 : ((r.2 : Int) == (i : Int)) = true := beq_iff_eq.2 (by omega)
            clear he
            go_wp2
            refine bodyPost_ret (results_ctt rfl _ _ w.heap.size 37 _ (0, 0) _ rfl (put3 HHr.out _ _ _) hu rfl (by kernel_rfl)) rfl ?_
            exact ⟨rfl, below3 HBw.out (Nat.le_refl _) _ _ _⟩
          · rw [if_neg he] at hE
            have b2 : ((r.2 : Int) == (i : Int)) = false := beq_eq_false_iff_ne.2 (by omega)
            have q0 : (0 : Int) ≤ (i : Int) := by omega
            have q1 : (i : Int) ≤ (r.2 : Int) := by omega
            have q2 : (r.2 : Int) ≤ (s.size : Int) := by omega
            clear he
            by_cases hcl : (s.extract i r.2).data.toList = closed
            · rw [if_pos hcl] at hE
              subst hE
              have b3 : ((s.extract i r.2).toList == [92, 60, 99, 108, 111, 115, 101, 62]) = true := beq_iff_eq.2 (by rw [Lib.toList_data]; exact hcl)
              clear hcl
              go_wp2
              refine bodyPost_ret (results_ctt rfl _ _ w.heap.size 37 _ (0, 0) _ rfl (put3 HHr.out _ _ _) hu rfl (by kernel_rfl)) rfl ?_
              exact ⟨rfl, below3 HBw.out (Nat.le_refl _) _ _ _⟩
            · rw [if_neg hcl] at hE
              subst hE
              have b3 : ((s.extract i r.2).toList == [92, 60, 99, 108, 111, 115, 101, 62]) = false := beq_eq_false_iff_ne.2 (by rw [Lib.toList_data]; exact hcl)
              clear hcl
              go_wp2
              refine bodyPost_ret (results_ctt rfl _ _ w.heap.size 37 _ (0, 0) _ rfl (put3 HHr.out _ _ _) hu rfl (by kernel_rfl)) rfl ?_
              exact ⟨rfl, below3 HBw.out (Nat.le_refl _) _ _ _⟩
end Go.Proofs.YtmkfeanggmjhmaaGreat.V
