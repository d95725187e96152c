/- Own walks of the reference of tokens: plain.  Printed by wip/genv3.py. -/
import Derived.Test.YtmkfeanggmjhmaaGreatV12
namespace Go.Proofs.YtmkfeanggmjhmaaGreat.V
open Go Go.RowKit Go.Proofs.YtmkfeanggmjhmaaGreatW.PrintWords Go.Proofs.YtmkfeanggmjhmaaGreatW.PrintLast Go.Proofs.YtmkfeanggmjhmaaGreatW.PrintMore
open Go.Proofs.YtmkfeanggmjhmaaGreat.M Go.Proofs.YtmkfeanggmjhmaaGreat.E Go.Proofs.YtmkfeanggmjhmaaGreat.L Go.Proofs.YtmkfeanggmjhmaaGreat.PTokenWrites
set_option linter.unusedSimpArgs false
set_option linter.unusedVariables false

/-- what plain returns -/
def plainR (s : ByteArray) (i : Nat) : Int × Nat :=
  if letterB (bt s i) then namesE s i
  else if bt s i = 39 ∧ i + 1 < identE s (i + 1) then (3, identE s (i + 1))
  else if bt s i = 63 ∧ i + 1 < identE s (i + 1) then (4, indexE s (identE s (i + 1)))
  else if preAt s i [63, 39] = true ∧ i + 2 < identE s (i + 2) then (5, indexE s (identE s (i + 2)))
  else tailV s i
theorem plain_good (s : ByteArray) (i : Nat) (hi : i < s.size) : L.Good s i (plainR s i) := by
  have hr := bt_range s i
  unfold plainR
  by_cases h1 : letterB (bt s i) = true
  · rw [if_pos h1]
    have hl := (letter_iff _).1 h1
    have hy : symE s i = i := sym_none hi (by omega) (sign_no hr.1 hr.2 (by omega)) (point_no hr.1 hr.2 (by omega))
    have hg : i < (namesE s i).2 := by
      have a := ident_some hi h1
      unfold namesE
      rw [if_pos a]
      unfold wordE
      have := wordF_le s (s.size - identE s i) 1 (identE s i) (identE_le s i (by omega))
      omega
    unfold L.Good
    rw [best_eq, vars_none hi (by omega) (by omega), digits_none hi (digit_no (by omega)), hy]
    simp only [if_pos hg, if_neg (show ¬ (namesE s i).2 < i by omega), true_and, implies_true]
  · rw [if_neg h1]
    have hlf := Bool.eq_false_iff.2 h1
    by_cases h39 : bt s i = 39
    · have hp39 : preAt s i [39] = true := by rw [preAt_one s i hi]; exact decide_eq_true h39
      have hno : ¬ preAt s i [63, 39] = true := fun hp => by have := preAt_first hi hp; have e : ((63 : UInt8).toNat : Int) = 63 := rfl; omega
      by_cases ha : i + 1 < identE s (i + 1)
      · rw [if_pos ⟨h39, ha⟩]
        refine vars_good s i hi (.inl h39) _ _ ?_ (by omega)
        unfold varsE; rw [mark_some hp39 ha]; rfl
      · rw [if_neg (fun h => ha h.2), if_neg (fun h => ha h.2), if_neg (fun h => hno h.1)]
        have hge := identE_ge s (i + 1)
        have hn : identE s (i + 1) = i + 1 := by omega
        have hv : varsE s i = (0, i) := by
          unfold varsE
          rw [mark_not (m := [39]) hn, mark_none hi (c := 63) (t := [39]) (show bt s i ≠ 63 by omega), mark_none hi (c := 63) (t := []) (show bt s i ≠ 63 by omega)]
        exact tail_good s i hi hlf hv (.inr (.inr (.inr trivial)))
    · rw [if_neg (fun h => h39 h.1)]
      by_cases h63 : bt s i = 63
      · have hm1 : markE s i [39] = none := mark_none hi (c := 39) (t := []) (show bt s i ≠ 39 by omega)
        have hp63 : preAt s i [63] = true := by rw [preAt_one s i hi]; exact decide_eq_true h63
        by_cases ha : i + 1 < identE s (i + 1)
        · rw [if_pos ⟨h63, ha⟩]
          obtain ⟨hi1, hl1⟩ := ident_pos ha
          have hno : preAt s i [63, 39] = false := by
            rw [preAt_cons s i hi, preAt_one s (i + 1) hi1, decide_eq_false (show ¬ bt s ((i + 1 : Nat) : Int) = ((39 : UInt8).toNat : Int) from bt_letter_39 hl1), Bool.and_false]
          have hle := identE_le s (i + 1) (by omega)
          have hin := indexE_le s (identE s (i + 1)) hle
          refine vars_good s i hi (.inr h63) _ _ ?_ (by omega)
          unfold varsE; rw [hm1, mark_pre hno, mark_some hp63 ha]; rfl
        · rw [if_neg (fun h => ha h.2)]
          have hge := identE_ge s (i + 1)
          have hn : identE s (i + 1) = i + 1 := by omega
          have hm3 : markE s i [63] = none := mark_not (m := [63]) hn
          by_cases hp : preAt s i [63, 39] = true
          · have hle2 := preAt_le hp (by omega)
            simp only [List.length_cons, List.length_nil] at hle2
            by_cases hb2 : i + 2 < identE s (i + 2)
            · rw [if_pos ⟨hp, hb2⟩]
              have hle := identE_le s (i + 2) (by omega)
              have hin := indexE_le s (identE s (i + 2)) hle
              refine vars_good s i hi (.inr h63) _ _ ?_ (by omega)
              unfold varsE; rw [hm1, mark_some hp hb2]; rfl
            · rw [if_neg (fun h => hb2 h.2)]
              have hge2 := identE_ge s (i + 2)
              have hn2 : identE s (i + 2) = i + 2 := by omega
              have hv : varsE s i = (0, i) := by
                unfold varsE
                rw [hm1, mark_not (m := [63, 39]) hn2, hm3]
              exact tail_good s i hi hlf hv (.inr (.inr (.inr trivial)))
          · rw [if_neg (fun h => hp h.1)]
            have hv : varsE s i = (0, i) := by
              unfold varsE
              rw [hm1, mark_pre (m := [63, 39]) (Bool.eq_false_iff.2 hp), hm3]
            exact tail_good s i hi hlf hv (.inr (.inr (.inr trivial)))
      · have hno : ¬ preAt s i [63, 39] = true := fun hp => h63 (preAt_first hi hp)
        rw [if_neg (fun h => h63 h.1), if_neg (fun h => hno h.1)]
        exact tail_good s i hi hlf (vars_none hi h39 h63) (.inr (.inr (.inr trivial)))
theorem plain_range (s : ByteArray) (i : Nat) (hi : i < s.size) : i ≤ (plainR s i).2 ∧ (plainR s i).2 ≤ s.size := by
  have hb := bestE_le s i hi 4
  have hg := plain_good s i hi
  rw [hg.1]
  exact hb

theorem c_identZ (s : ByteArray) (z : Int) (i : Nat) (hz : z = (i : Int)) (hs : s.size ≤ 1000000000) (hi : i ≤ 1000000002) (w : World) : Calls Tryz.prog 51 #[.string s, .int .i64 z] w fun e w' => e = .returned (.int .i64 (identE s i)) ∧ Below w.heap.size w w' := by
  subst hz; exact c_ident s i hs hi w
theorem c_var (s : ByteArray) (i : Nat) (hs : s.size ≤ 1000000000) (hi : i ≤ s.size) (w : World) : Calls Tryz.prog 55 #[.string s, .int .i64 i, .string ⟨#[63, 39]⟩] w fun e w' => e = .returned (.bool (preAt s i [63, 39])) ∧ Below w.heap.size w w' := c_starts s i _ hs hi (by decide) w
theorem c_sign (c : Int) (h0 : 0 ≤ c) (h1 : c ≤ 255) (w : World) : Calls Tryz.prog 53 #[.string signT, .int .u8 c] w fun e w' => e = .returned (.bool (signB c)) ∧ Below w.heap.size w w' := by
  rw [sign_has c h0 h1]; exact c_has signT c (by decide) w
theorem c_point (c : Int) (h0 : 0 ≤ c) (h1 : c ≤ 255) (w : World) : Calls Tryz.prog 53 #[.string pointT, .int .u8 c] w fun e w' => e = .returned (.bool (pointB c)) ∧ Below w.heap.size w w' := by
  rw [point_has c h0 h1]; exact c_has pointT c (by decide) w

set_option maxRecDepth 100000 in
set_option maxHeartbeats 8000000 in
theorem plain_calls (s : ByteArray) (hs : s.size ≤ 1000000000) (i : Nat) (hi : i < s.size) (w : World) :
    Calls Tryz.prog 58 #[.string s, .int .i64 i] w fun e w' => e = .returned (.tuple #[.int .i64 (plainR s i).1, .int .i64 (plainR s i).2]) ∧ Below w.heap.size w w' := by
  have hr := bt_range s i
  have hltz : (i : Int) < (s.size : Int) := by omega
  have hx := (bt_nat s i hi).symm
  have HL := Lib.hid (fun W => c_letter (bt s i) W)
  have HI0 := Lib.hid (fun W => c_ident s i hs (by omega) W)
  have HI1 := Lib.hid (fun (z : Int) W (hz : z = ((i + 1 : Nat) : Int)) => c_identZ s z (i + 1) hz hs (by omega) W)
  have HI2 := Lib.hid (fun (z : Int) W (hz : z = ((i + 2 : Nat) : Int)) => c_identZ s z (i + 2) hz hs (by omega) W)
  have HX1 := Lib.hid (fun W => index_calls s hs (identE s (i + 1)) (identE_le s (i + 1) (by omega)) W)
  have HX2 := Lib.hid (fun (h : i + 2 ≤ s.size) W => index_calls s hs (identE s (i + 2)) (identE_le s (i + 2) h) W)
  have HV := Lib.hid (fun W => c_var s i hs (by omega) W)
  have HD := Lib.hid (fun W => c_digit (bt s i) W)
  have HDs := Lib.hid (fun W => c_digits s i hs (by omega) W)
  have HS := Lib.hid (fun W => c_sign (bt s i) hr.1 hr.2 W)
  have HSs := Lib.hid (fun W => c_signs s i hs (by omega) W)
  have HP := Lib.hid (fun W => c_point (bt s i) hr.1 hr.2 W)
  have HN := Lib.hid (fun W => c_named s i hs (by omega) W)
  obtain ⟨⟨kd, en⟩, hR⟩ : ∃ p, plainR s i = p := ⟨_, rfl⟩
  have h2 : preAt s i [63, 39] = true → i + 2 ≤ s.size := fun hp => by have := preAt_le hp (by omega); simpa using this
  have hno : ¬ bt s i = 63 → preAt s i [63, 39] = false := fun h63 => Bool.eq_false_iff.2 (fun hp => h63 (preAt_first hi hp))
  rw [hR]
  unfold plainR at hR
  generalize indexE s (identE s (i + 1)) = x1 at HX1 hR
  generalize indexE s (identE s (i + 2)) = x2 at HX2 hR
  generalize identE s (i + 1) = e1 at HI1 HX1 hR
  generalize identE s (i + 2) = e2 at HI2 HX2 hR
  have H2 := Lib.hid h2
  have HNo := Lib.hid hno
  clear h2 hno
  go_enter Tryz.func58, Tryz.ntmps58
  have HB0 := Lib.hid (Below.refl w.heap.size w)
  cases h1 : letterB (bt s i) with
  | true =>
    rw [h1, if_pos rfl] at hR
    rw [h1] at HL
    have hw : namesE s i = wordE s 1 (identE s i) := by unfold namesE; rw [if_pos (ident_some hi h1)]
    rw [hw] at hR
    have hle := identE_le s i (by omega)
    have HLE := Lib.hid hle
    generalize identE s i = e0 at HI0 hR hle HLE
    have HR := Lib.hid hR
    clear h1 hw hR
    go_wp2_with fail
    refine (HL.out _).mono ?_
    rintro e w1 ⟨rfl, hb1⟩
    have HB1 := Lib.hid (HB0.out.trans (hb1.mono HB0.out.size))
    clear hb1
    go_wp2_with fail
    refine (HI0.out _).mono ?_
    rintro e w2 ⟨rfl, hb2⟩
    have HB2 := Lib.hid (HB1.out.trans (hb2.mono HB1.out.size))
    clear hb2
    go_wp2
    go_loopg [7, 8] s.size (fun gg v7 v8 wr => ∃ (e : Nat) (k : Int), v7 = .int .i64 e ∧ v8 = .int .i64 k ∧ e ≤ s.size ∧ s.size - e ≤ gg ∧ Hid (wordE s k e = (kd, en)) ∧ Hid (Below w.heap.size w wr))
    case atStart => exact ⟨e0, 1, rfl, rfl, hle, by omega, HR, HB2⟩
    case round =>
      clear HR HB0 HB1 HB2
      obtain ⟨e, k, rfl, rfl, he, hg, HR, HB3⟩ := hrel
      have hr' := HR.out
      by_cases hlt : e < s.size
      · have hlz : (e : Int) < (s.size : Int) := by omega
        have hx2 := (bt_nat s e hlt).symm
        by_cases h46 : bt s e = 46
        · have b1 : (bt s e == 46) = true := beq_iff_eq.2 h46
          have HE := Lib.hid (fun (z : Int) W (hz : z = ((e + 1 : Nat) : Int)) => c_identZ s z (e + 1) hz hs (by omega) W)
          have hle := identE_le s (e + 1) (by omega)
          have hge := identE_ge s (e + 1)
          by_cases hn : identE s (e + 1) = e + 1
          · rw [wordE_stop s k e hlt hn] at hr'
            obtain ⟨rfl, rfl⟩ := Prod.mk.inj hr'
            have hgt : ¬ (e : Int) + 1 < ((identE s (e + 1) : Nat) : Int) := by omega
            generalize identE s (e + 1) = e5 at HE hgt
            clear hn hle hge
            go_wp2_with fail
            refine (HE.out _ _ (by omega)).mono ?_
            rintro e w4 ⟨rfl, hb4⟩
            have HB4 := Lib.hid (HB3.out.trans (hb4.mono HB3.out.size))
            clear hb4
            go_wp2
            go_ret2
            exact ⟨rfl, HB4.out⟩
          · rw [wordE_step s k e hlt h46 hn] at hr'
            have HR := Lib.hid hr'
            have hgt : (e : Int) + 1 < ((identE s (e + 1) : Nat) : Int) := by omega
            have hgn : e + 1 < identE s (e + 1) := by omega
            generalize identE s (e + 1) = e5 at HE hgt HR hle hgn
            have Hle := Lib.hid hle
            have Hgn := Lib.hid hgn
            clear hr' hn hle hge hgn
            go_wp2_with fail
            refine (HE.out _ _ (by omega)).mono ?_
            rintro e w4 ⟨rfl, hb4⟩
            have HB4 := Lib.hid (HB3.out.trans (hb4.mono HB3.out.size))
            clear hb4
            go_wp2_with fail
            refine (HE.out _ _ (by omega)).mono ?_
            rintro e w5 ⟨rfl, hb5⟩
            have HB5 := Lib.hid (HB4.out.trans (hb5.mono HB4.out.size))
            clear hb5
            go_wp2
            go_roundg (s.size - e5)
            case measure => have := Hle.out; have := Hgn.out; omega
            case rel => exact ⟨e5, 2, rfl, rfl, Hle.out, Nat.le_refl _, HR, HB5⟩
        · have b1 : (bt s e == 46) = false := beq_eq_false_iff_ne.2 h46
          rw [wordE_dot s k e hlt h46] at hr'
          obtain ⟨rfl, rfl⟩ := Prod.mk.inj hr'
          go_wp2
          go_ret2
          exact ⟨rfl, HB3.out⟩
      · have hlz : ¬ (e : Int) < (s.size : Int) := by omega
        rw [wordE_end s k e (by omega)] at hr'
        obtain ⟨rfl, rfl⟩ := Prod.mk.inj hr'
        go_wp2
        go_ret2
        exact ⟨rfl, HB3.out⟩
  | false =>
    rw [h1, if_neg (by decide)] at hR
    rw [h1] at HL
    clear h1
    go_wp2_with fail
    refine (HL.out _).mono ?_
    rintro e w1 ⟨rfl, hb1⟩
    have HB1 := Lib.hid (HB0.out.trans (hb1.mono HB0.out.size))
    clear hb1
    by_cases h39 : bt s i = 39
    · have b39 : (bt s i == 39) = true := beq_iff_eq.2 h39
      have b63 : (bt s i == 63) = false := beq_eq_false_iff_ne.2 (by omega)
      have hp := HNo.out (by omega)
      by_cases ha : i + 1 < e1
      · have haz : (i : Int) + 1 < (e1 : Int) := by omega
        rw [if_pos ⟨h39, ha⟩] at hR
        obtain ⟨rfl, rfl⟩ := Prod.mk.inj hR
        clear h39
        go_wp2_with fail
        refine (HI1.out _ _ (by omega)).mono ?_
        rintro e w2 ⟨rfl, hb2⟩
        have HB2 := Lib.hid (HB1.out.trans (hb2.mono HB1.out.size))
        clear hb2
        go_wp2_with fail
        refine (HI1.out _ _ (by omega)).mono ?_
        rintro e w3 ⟨rfl, hb3⟩
        have HB3 := Lib.hid (HB2.out.trans (hb3.mono HB2.out.size))
        clear hb3
        go_wp2
        go_ret2
        exact ⟨rfl, HB3.out⟩
      · have haz : ¬ (i : Int) + 1 < (e1 : Int) := by omega
        rw [if_neg (fun h => ha h.2), if_neg (fun h => ha h.2), if_neg (fun h => by rw [hp] at h; exact absurd h.1 (by decide))] at hR
        rw [hp] at HV
        clear hp h39
        go_wp2_with fail
        refine (HI1.out _ _ (by omega)).mono ?_
        rintro e w2 ⟨rfl, hb2⟩
        have HB2 := Lib.hid (HB1.out.trans (hb2.mono HB1.out.size))
        clear hb2
        go_wp2_with fail
        refine (HV.out _).mono ?_
        rintro e w3 ⟨rfl, hb3⟩
        have HB3 := Lib.hid (HB2.out.trans (hb3.mono HB2.out.size))
        clear hb3
        unfold tailV at hR
        cases hd : digitB (bt s i) with
        | true =>
          rw [hd, if_pos rfl] at hR
          obtain ⟨rfl, rfl⟩ := Prod.mk.inj hR
          rw [hd] at HD
          clear hd
          go_wp2_with fail
          refine (HD.out _).mono ?_
          rintro e w4 ⟨rfl, hb4⟩
          have HB4 := Lib.hid (HB3.out.trans (hb4.mono HB3.out.size))
          clear hb4
          go_wp2_with fail
          refine (HDs.out _).mono ?_
          rintro e w5 ⟨rfl, hb5⟩
          have HB5 := Lib.hid (HB4.out.trans (hb5.mono HB4.out.size))
          clear hb5
          go_wp2
          go_ret2
          exact ⟨rfl, HB5.out⟩
        | false =>
          rw [hd, if_neg (by decide)] at hR
          rw [hd] at HD
          clear hd
          go_wp2_with fail
          refine (HD.out _).mono ?_
          rintro e w4 ⟨rfl, hb4⟩
          have HB4 := Lib.hid (HB3.out.trans (hb4.mono HB3.out.size))
          clear hb4
          cases hd : signB (bt s i) with
          | true =>
            rw [hd, if_pos rfl] at hR
            obtain ⟨rfl, rfl⟩ := Prod.mk.inj hR
            rw [hd] at HS
            clear hd
            go_wp2_with fail
            refine (HS.out _).mono ?_
            rintro e w5 ⟨rfl, hb5⟩
            have HB5 := Lib.hid (HB4.out.trans (hb5.mono HB4.out.size))
            clear hb5
            go_wp2_with fail
            refine (HSs.out _).mono ?_
            rintro e w6 ⟨rfl, hb6⟩
            have HB6 := Lib.hid (HB5.out.trans (hb6.mono HB5.out.size))
            clear hb6
            go_wp2
            go_ret2
            exact ⟨rfl, HB6.out⟩
          | false =>
            rw [hd, if_neg (by decide)] at hR
            rw [hd] at HS
            clear hd
            go_wp2_with fail
            refine (HS.out _).mono ?_
            rintro e w5 ⟨rfl, hb5⟩
            have HB5 := Lib.hid (HB4.out.trans (hb5.mono HB4.out.size))
            clear hb5
            cases hd : pointB (bt s i) with
            | true =>
              rw [hd, if_pos rfl] at hR
              obtain ⟨rfl, rfl⟩ := Prod.mk.inj hR
              rw [hd] at HP
              clear hd
              go_wp2_with fail
              refine (HP.out _).mono ?_
              rintro e w6 ⟨rfl, hb6⟩
              have HB6 := Lib.hid (HB5.out.trans (hb6.mono HB5.out.size))
              clear hb6
              go_wp2
              go_ret2
              exact ⟨rfl, HB6.out⟩
            | false =>
              rw [hd, if_neg (by decide)] at hR
              obtain ⟨rfl, rfl⟩ := Prod.mk.inj hR
              rw [hd] at HP
              clear hd
              go_wp2_with fail
              refine (HP.out _).mono ?_
              rintro e w6 ⟨rfl, hb6⟩
              have HB6 := Lib.hid (HB5.out.trans (hb6.mono HB5.out.size))
              clear hb6
              go_wp2_with fail
              refine (HN.out _).mono ?_
              rintro e w7 ⟨rfl, hb7⟩
              have HB7 := Lib.hid (HB6.out.trans (hb7.mono HB6.out.size))
              clear hb7
              go_wp2
              go_ret2
              exact ⟨rfl, HB7.out⟩
    · have b39 : (bt s i == 39) = false := beq_eq_false_iff_ne.2 h39
      rw [if_neg (fun h => h39 h.1)] at hR
      by_cases h63 : bt s i = 63
      · have b63 : (bt s i == 63) = true := beq_iff_eq.2 h63
        by_cases ha : i + 1 < e1
        · have haz : (i : Int) + 1 < (e1 : Int) := by omega
          rw [if_pos ⟨h63, ha⟩] at hR
          obtain ⟨rfl, rfl⟩ := Prod.mk.inj hR
          clear h39 h63
          go_wp2_with fail
          refine (HI1.out _ _ (by omega)).mono ?_
          rintro e w2 ⟨rfl, hb2⟩
          have HB2 := Lib.hid (HB1.out.trans (hb2.mono HB1.out.size))
          clear hb2
          go_wp2_with fail
          refine (HI1.out _ _ (by omega)).mono ?_
          rintro e w3 ⟨rfl, hb3⟩
          have HB3 := Lib.hid (HB2.out.trans (hb3.mono HB2.out.size))
          clear hb3
          go_wp2_with fail
          refine (HX1.out _).mono ?_
          rintro e w4 ⟨rfl, hb4⟩
          have HB4 := Lib.hid (HB3.out.trans (hb4.mono HB3.out.size))
          clear hb4
          go_wp2
          go_ret2
          exact ⟨rfl, HB4.out⟩
        · have haz : ¬ (i : Int) + 1 < (e1 : Int) := by omega
          rw [if_neg (fun h => ha h.2)] at hR
          clear h39 h63
          cases hp : preAt s i [63, 39] with
          | true =>
            have hi2 := H2.out hp
            have HX3 := Lib.hid (HX2.out hi2)
            rw [hp] at HV
            by_cases hb2 : i + 2 < e2
            · have hbz : (i : Int) + 2 < (e2 : Int) := by omega
              rw [if_pos ⟨hp, hb2⟩] at hR
              obtain ⟨rfl, rfl⟩ := Prod.mk.inj hR
              clear hp
              go_wp2_with fail
              refine (HI1.out _ _ (by omega)).mono ?_
              rintro e w2 ⟨rfl, hb2⟩
              have HB2 := Lib.hid (HB1.out.trans (hb2.mono HB1.out.size))
              clear hb2
              go_wp2_with fail
              refine (HV.out _).mono ?_
              rintro e w3 ⟨rfl, hb3⟩
              have HB3 := Lib.hid (HB2.out.trans (hb3.mono HB2.out.size))
              clear hb3
              go_wp2_with fail
              refine (HI2.out _ _ (by omega)).mono ?_
              rintro e w4 ⟨rfl, hb4⟩
              have HB4 := Lib.hid (HB3.out.trans (hb4.mono HB3.out.size))
              clear hb4
              go_wp2_with fail
              refine (HI2.out _ _ (by omega)).mono ?_
              rintro e w5 ⟨rfl, hb5⟩
              have HB5 := Lib.hid (HB4.out.trans (hb5.mono HB4.out.size))
              clear hb5
              go_wp2_with fail
              refine (HX3.out _).mono ?_
              rintro e w6 ⟨rfl, hb6⟩
              have HB6 := Lib.hid (HB5.out.trans (hb6.mono HB5.out.size))
              clear hb6
              go_wp2
              go_ret2
              exact ⟨rfl, HB6.out⟩
            · have hbz : ¬ (i : Int) + 2 < (e2 : Int) := by omega
              rw [if_neg (fun h => hb2 h.2)] at hR
              clear hp
              go_wp2_with fail
              refine (HI1.out _ _ (by omega)).mono ?_
              rintro e w2 ⟨rfl, hb2⟩
              have HB2 := Lib.hid (HB1.out.trans (hb2.mono HB1.out.size))
              clear hb2
              go_wp2_with fail
              refine (HV.out _).mono ?_
              rintro e w3 ⟨rfl, hb3⟩
              have HB3 := Lib.hid (HB2.out.trans (hb3.mono HB2.out.size))
              clear hb3
              go_wp2_with fail
              refine (HI2.out _ _ (by omega)).mono ?_
              rintro e w4 ⟨rfl, hb4⟩
              have HB4 := Lib.hid (HB3.out.trans (hb4.mono HB3.out.size))
              clear hb4
              unfold tailV at hR
              cases hd : digitB (bt s i) with
              | true =>
                rw [hd, if_pos rfl] at hR
                obtain ⟨rfl, rfl⟩ := Prod.mk.inj hR
                rw [hd] at HD
                clear hd
                go_wp2_with fail
                refine (HD.out _).mono ?_
                rintro e w5 ⟨rfl, hb5⟩
                have HB5 := Lib.hid (HB4.out.trans (hb5.mono HB4.out.size))
                clear hb5
                go_wp2_with fail
                refine (HDs.out _).mono ?_
                rintro e w6 ⟨rfl, hb6⟩
                have HB6 := Lib.hid (HB5.out.trans (hb6.mono HB5.out.size))
                clear hb6
                go_wp2
                go_ret2
                exact ⟨rfl, HB6.out⟩
              | false =>
                rw [hd, if_neg (by decide)] at hR
                rw [hd] at HD
                clear hd
                go_wp2_with fail
                refine (HD.out _).mono ?_
                rintro e w5 ⟨rfl, hb5⟩
                have HB5 := Lib.hid (HB4.out.trans (hb5.mono HB4.out.size))
                clear hb5
                cases hd : signB (bt s i) with
                | true =>
                  rw [hd, if_pos rfl] at hR
                  obtain ⟨rfl, rfl⟩ := Prod.mk.inj hR
                  rw [hd] at HS
                  clear hd
                  go_wp2_with fail
                  refine (HS.out _).mono ?_
                  rintro e w6 ⟨rfl, hb6⟩
                  have HB6 := Lib.hid (HB5.out.trans (hb6.mono HB5.out.size))
                  clear hb6
                  go_wp2_with fail
                  refine (HSs.out _).mono ?_
                  rintro e w7 ⟨rfl, hb7⟩
                  have HB7 := Lib.hid (HB6.out.trans (hb7.mono HB6.out.size))
                  clear hb7
                  go_wp2
                  go_ret2
                  exact ⟨rfl, HB7.out⟩
                | false =>
                  rw [hd, if_neg (by decide)] at hR
                  rw [hd] at HS
                  clear hd
                  go_wp2_with fail
                  refine (HS.out _).mono ?_
                  rintro e w6 ⟨rfl, hb6⟩
                  have HB6 := Lib.hid (HB5.out.trans (hb6.mono HB5.out.size))
                  clear hb6
                  cases hd : pointB (bt s i) with
                  | true =>
                    rw [hd, if_pos rfl] at hR
                    obtain ⟨rfl, rfl⟩ := Prod.mk.inj hR
                    rw [hd] at HP
                    clear hd
                    go_wp2_with fail
                    refine (HP.out _).mono ?_
                    rintro e w7 ⟨rfl, hb7⟩
                    have HB7 := Lib.hid (HB6.out.trans (hb7.mono HB6.out.size))
                    clear hb7
                    go_wp2
                    go_ret2
                    exact ⟨rfl, HB7.out⟩
                  | false =>
                    rw [hd, if_neg (by decide)] at hR
                    obtain ⟨rfl, rfl⟩ := Prod.mk.inj hR
                    rw [hd] at HP
                    clear hd
                    go_wp2_with fail
                    refine (HP.out _).mono ?_
                    rintro e w7 ⟨rfl, hb7⟩
                    have HB7 := Lib.hid (HB6.out.trans (hb7.mono HB6.out.size))
                    clear hb7
                    go_wp2_with fail
                    refine (HN.out _).mono ?_
                    rintro e w8 ⟨rfl, hb8⟩
                    have HB8 := Lib.hid (HB7.out.trans (hb8.mono HB7.out.size))
                    clear hb8
                    go_wp2
                    go_ret2
                    exact ⟨rfl, HB8.out⟩
          | false =>
            rw [if_neg (fun h => by rw [hp] at h; exact absurd h.1 (by decide))] at hR
            rw [hp] at HV
            clear hp
            go_wp2_with fail
            refine (HI1.out _ _ (by omega)).mono ?_
            rintro e w2 ⟨rfl, hb2⟩
            have HB2 := Lib.hid (HB1.out.trans (hb2.mono HB1.out.size))
            clear hb2
            go_wp2_with fail
            refine (HV.out _).mono ?_
            rintro e w3 ⟨rfl, hb3⟩
            have HB3 := Lib.hid (HB2.out.trans (hb3.mono HB2.out.size))
            clear hb3
            unfold tailV at hR
            cases hd : digitB (bt s i) with
            | true =>
              rw [hd, if_pos rfl] at hR
              obtain ⟨rfl, rfl⟩ := Prod.mk.inj hR
              rw [hd] at HD
              clear hd
              go_wp2_with fail
              refine (HD.out _).mono ?_
              rintro e w4 ⟨rfl, hb4⟩
              have HB4 := Lib.hid (HB3.out.trans (hb4.mono HB3.out.size))
              clear hb4
              go_wp2_with fail
              refine (HDs.out _).mono ?_
              rintro e w5 ⟨rfl, hb5⟩
              have HB5 := Lib.hid (HB4.out.trans (hb5.mono HB4.out.size))
              clear hb5
              go_wp2
              go_ret2
              exact ⟨rfl, HB5.out⟩
            | false =>
              rw [hd, if_neg (by decide)] at hR
              rw [hd] at HD
              clear hd
              go_wp2_with fail
              refine (HD.out _).mono ?_
              rintro e w4 ⟨rfl, hb4⟩
              have HB4 := Lib.hid (HB3.out.trans (hb4.mono HB3.out.size))
              clear hb4
              cases hd : signB (bt s i) with
              | true =>
                rw [hd, if_pos rfl] at hR
                obtain ⟨rfl, rfl⟩ := Prod.mk.inj hR
                rw [hd] at HS
                clear hd
                go_wp2_with fail
                refine (HS.out _).mono ?_
                rintro e w5 ⟨rfl, hb5⟩
                have HB5 := Lib.hid (HB4.out.trans (hb5.mono HB4.out.size))
                clear hb5
                go_wp2_with fail
                refine (HSs.out _).mono ?_
                rintro e w6 ⟨rfl, hb6⟩
                have HB6 := Lib.hid (HB5.out.trans (hb6.mono HB5.out.size))
                clear hb6
                go_wp2
                go_ret2
                exact ⟨rfl, HB6.out⟩
              | false =>
                rw [hd, if_neg (by decide)] at hR
                rw [hd] at HS
                clear hd
                go_wp2_with fail
                refine (HS.out _).mono ?_
                rintro e w5 ⟨rfl, hb5⟩
                have HB5 := Lib.hid (HB4.out.trans (hb5.mono HB4.out.size))
                clear hb5
                cases hd : pointB (bt s i) with
                | true =>
                  rw [hd, if_pos rfl] at hR
                  obtain ⟨rfl, rfl⟩ := Prod.mk.inj hR
                  rw [hd] at HP
                  clear hd
                  go_wp2_with fail
                  refine (HP.out _).mono ?_
                  rintro e w6 ⟨rfl, hb6⟩
                  have HB6 := Lib.hid (HB5.out.trans (hb6.mono HB5.out.size))
                  clear hb6
                  go_wp2
                  go_ret2
                  exact ⟨rfl, HB6.out⟩
                | false =>
                  rw [hd, if_neg (by decide)] at hR
                  obtain ⟨rfl, rfl⟩ := Prod.mk.inj hR
                  rw [hd] at HP
                  clear hd
                  go_wp2_with fail
                  refine (HP.out _).mono ?_
                  rintro e w6 ⟨rfl, hb6⟩
                  have HB6 := Lib.hid (HB5.out.trans (hb6.mono HB5.out.size))
                  clear hb6
                  go_wp2_with fail
                  refine (HN.out _).mono ?_
                  rintro e w7 ⟨rfl, hb7⟩
                  have HB7 := Lib.hid (HB6.out.trans (hb7.mono HB6.out.size))
                  clear hb7
                  go_wp2
                  go_ret2
                  exact ⟨rfl, HB7.out⟩
      · have b63 : (bt s i == 63) = false := beq_eq_false_iff_ne.2 h63
        have hp := HNo.out h63
        rw [if_neg (fun h => h63 h.1), if_neg (fun h => by rw [hp] at h; exact absurd h.1 (by decide))] at hR
        rw [hp] at HV
        clear hp h39 h63
        go_wp2_with fail
        refine (HV.out _).mono ?_
        rintro e w2 ⟨rfl, hb2⟩
        have HB2 := Lib.hid (HB1.out.trans (hb2.mono HB1.out.size))
        clear hb2
        unfold tailV at hR
        cases hd : digitB (bt s i) with
        | true =>
          rw [hd, if_pos rfl] at hR
          obtain ⟨rfl, rfl⟩ := Prod.mk.inj hR
          rw [hd] at HD
          clear hd
          go_wp2_with fail
          refine (HD.out _).mono ?_
          rintro e w3 ⟨rfl, hb3⟩
          have HB3 := Lib.hid (HB2.out.trans (hb3.mono HB2.out.size))
          clear hb3
          go_wp2_with fail
          refine (HDs.out _).mono ?_
          rintro e w4 ⟨rfl, hb4⟩
          have HB4 := Lib.hid (HB3.out.trans (hb4.mono HB3.out.size))
          clear hb4
          go_wp2
          go_ret2
          exact ⟨rfl, HB4.out⟩
        | false =>
          rw [hd, if_neg (by decide)] at hR
          rw [hd] at HD
          clear hd
          go_wp2_with fail
          refine (HD.out _).mono ?_
          rintro e w3 ⟨rfl, hb3⟩
          have HB3 := Lib.hid (HB2.out.trans (hb3.mono HB2.out.size))
          clear hb3
          cases hd : signB (bt s i) with
          | true =>
            rw [hd, if_pos rfl] at hR
            obtain ⟨rfl, rfl⟩ := Prod.mk.inj hR
            rw [hd] at HS
            clear hd
            go_wp2_with fail
            refine (HS.out _).mono ?_
            rintro e w4 ⟨rfl, hb4⟩
            have HB4 := Lib.hid (HB3.out.trans (hb4.mono HB3.out.size))
            clear hb4
            go_wp2_with fail
            refine (HSs.out _).mono ?_
            rintro e w5 ⟨rfl, hb5⟩
            have HB5 := Lib.hid (HB4.out.trans (hb5.mono HB4.out.size))
            clear hb5
            go_wp2
            go_ret2
            exact ⟨rfl, HB5.out⟩
          | false =>
            rw [hd, if_neg (by decide)] at hR
            rw [hd] at HS
            clear hd
            go_wp2_with fail
            refine (HS.out _).mono ?_
            rintro e w4 ⟨rfl, hb4⟩
            have HB4 := Lib.hid (HB3.out.trans (hb4.mono HB3.out.size))
            clear hb4
            cases hd : pointB (bt s i) with
            | true =>
              rw [hd, if_pos rfl] at hR
              obtain ⟨rfl, rfl⟩ := Prod.mk.inj hR
              rw [hd] at HP
              clear hd
              go_wp2_with fail
              refine (HP.out _).mono ?_
              rintro e w5 ⟨rfl, hb5⟩
              have HB5 := Lib.hid (HB4.out.trans (hb5.mono HB4.out.size))
              clear hb5
              go_wp2
              go_ret2
              exact ⟨rfl, HB5.out⟩
            | false =>
              rw [hd, if_neg (by decide)] at hR
              obtain ⟨rfl, rfl⟩ := Prod.mk.inj hR
              rw [hd] at HP
              clear hd
              go_wp2_with fail
              refine (HP.out _).mono ?_
              rintro e w5 ⟨rfl, hb5⟩
              have HB5 := Lib.hid (HB4.out.trans (hb5.mono HB4.out.size))
              clear hb5
              go_wp2_with fail
              refine (HN.out _).mono ?_
              rintro e w6 ⟨rfl, hb6⟩
              have HB6 := Lib.hid (HB5.out.trans (hb6.mono HB5.out.size))
              clear hb6
              go_wp2
              go_ret2
              exact ⟨rfl, HB6.out⟩
end Go.Proofs.YtmkfeanggmjhmaaGreat.V
