/- Own walks of the reference of tokens: blanks. -/
import Derived.Test.YtmkfeanggmjhmaaGreatV12
namespace Go.Proofs.YtmkfeanggmjhmaaGreat.V
open Go Go.RowKit Go.Proofs.YtmkfeanggmjhmaaGreatW.PrintWords Go.Proofs.YtmkfeanggmjhmaaGreatW.PrintLast Go.Proofs.YtmkfeanggmjhmaaGreatW.PrintMore
open Go.Proofs.YtmkfeanggmjhmaaGreat.M Go.Proofs.YtmkfeanggmjhmaaGreat.E Go.Proofs.YtmkfeanggmjhmaaGreat.L Go.Proofs.YtmkfeanggmjhmaaGreat.PTokenWrites
set_option linter.unusedSimpArgs false
set_option linter.unusedVariables false

theorem c_cb (s : ByteArray) (i : Nat) (hs : s.size ≤ 1000000000) (hi : i ≤ s.size) (w : World) : Calls Tryz.prog 55 #[.string s, .int .i64 i, .string ⟨#[40, 42]⟩] w fun e w' => e = .returned (.bool (preAt s i [40, 42])) ∧ Below w.heap.size w w' := c_starts s i _ hs hi (by decide) w
theorem c_ce (s : ByteArray) (i : Nat) (hs : s.size ≤ 1000000000) (hi : i ≤ s.size) (w : World) : Calls Tryz.prog 55 #[.string s, .int .i64 i, .string ⟨#[42, 41]⟩] w fun e w' => e = .returned (.bool (preAt s i [42, 41])) ∧ Below w.heap.size w w' := c_starts s i _ hs hi (by decide) w

set_option maxRecDepth 100000 in
set_option maxHeartbeats 4000000 in
theorem blanks_calls (s : ByteArray) (i0 : Nat) (hs : s.size ≤ 1000000000) (hi0 : i0 ≤ s.size) (w : World) : Calls Tryz.prog 40 #[.string s, .int .i64 i0] w fun e w' => e = .returned (.tuple #[.int .i64 (blP (blanksE s i0)).1, .int .i64 (blP (blanksE s i0)).2]) ∧ Below w.heap.size w w' := by
  generalize hR : blP (blanksE s i0) = R
  have HR := Lib.hid hR
  clear hR
  obtain ⟨r1, r2⟩ := R
  go_enter Tryz.func40, Tryz.ntmps40
  go_wp2
  go_loopg [1] (s.size + 1) (fun gg v1 wr => ∃ i : Nat, v1 = .int .i64 i ∧ i ≤ s.size ∧ s.size - i < gg ∧ Hid (blP (blanksE s i) = (r1, r2)) ∧ Hid (Below w.heap.size w wr))
  case atStart => exact ⟨i0, rfl, hi0, by omega, HR, Lib.hid (Below.refl _ _)⟩
  case round =>
    clear HR
    obtain ⟨i, rfl, hi, hg, HR, HB⟩ := hrel
    by_cases hlt : i < s.size
    · have hltz : (i : Int) < (s.size : Int) := by omega
      have hx := (bt_nat s i hlt).symm
      cases hb : blankB (bt s i) with
      | true =>
        have hr := HR.out
        rw [blanksE_blank s i hlt hb] at hr
        have HR := Lib.hid hr
        have hbl : bt s i = 32 ∨ bt s i = 9 ∨ bt s i = 10 ∨ bt s i = 13 := by unfold blankB at hb; exact of_decide_eq_true hb
        clear hr hb
        obtain ⟨c, hc⟩ : ∃ c, bt s i = c := ⟨_, rfl⟩
        rw [hc] at hx hbl
        clear hc
        rcases hbl with rfl | rfl | rfl | rfl <;>
        · go_wp2
          go_roundg (s.size - i)
          case measure => omega
          case rel => exact ⟨i + 1, by go_num, by omega, by omega, HR, HB⟩
      | false =>
        have hw := whileE_miss blankB s i hlt hb
        have hnb : ¬ (bt s i = 32 ∨ bt s i = 9 ∨ bt s i = 10 ∨ bt s i = 13) := by unfold blankB at hb; exact of_decide_eq_false hb
        have b1 : (bt s i == 32) = false := beq_eq_false_iff_ne.2 (fun h => hnb (.inl h))
        have b2 : (bt s i == 9) = false := beq_eq_false_iff_ne.2 (fun h => hnb (.inr (.inl h)))
        have b3 : (bt s i == 10) = false := beq_eq_false_iff_ne.2 (fun h => hnb (.inr (.inr (.inl h))))
        have b4 : (bt s i == 13) = false := beq_eq_false_iff_ne.2 (fun h => hnb (.inr (.inr (.inr h))))
        clear hnb hb
        have HO := Lib.hid (c_cb s i hs hi wr)
        cases hp : preAt s i [40, 42] with
        | false =>
          have hr := HR.out
          rw [blanksE_none s i (by rw [hw]; exact hp), hw] at hr
          obtain ⟨rfl, rfl⟩ := Prod.mk.inj hr
          rw [hp] at HO
          clear hw hp hr
          go_wp2_with fail
          refine HO.out.mono ?_
          rintro e w2 ⟨rfl, hb2⟩
          have HB2 := Lib.hid (HB.out.trans (hb2.mono HB.out.size))
          clear hb2
          go_wp2
          go_ret2
          exact ⟨rfl, HB2.out⟩
        | true =>
          rw [hp] at HO
          have hle := preAt_le hp (by omega)
          simp only [List.length_cons, List.length_nil] at hle
          have hD : stepD s [40, 42] [42, 41] i = 1 := by unfold stepD; rw [if_pos hp]
          have hW : stepW s [40, 42] [42, 41] i = 2 := by unfold stepW; rw [if_pos hp]; rfl
          have hne : nestE s [40, 42] [42, 41] i 0 = nestE s [40, 42] [42, 41] (i + 2) 1 := by
            rw [nestE_step _ _ _ (by decide) (by decide) _ _ hlt (by rw [hD]; omega), hD, hW]; rfl
          generalize hN : nestE s [40, 42] [42, 41] i 0 = N at hne
          have HN := Lib.hid hN
          have HP := Lib.hid hp
          have HWm := Lib.hid hw
          have HS := Lib.hid (show (if (1 : Nat) = 0 then N = some (i + 2) else nestE s [40, 42] [42, 41] (i + 2) ((1 : Nat) : Int) = N) from by rw [if_neg (by decide)]; exact hne.symm)
          clear hw hp hD hW hne hN
          go_wp2_with fail
          refine HO.out.mono ?_
          rintro e w2 ⟨rfl, hb2⟩
          have HB2 := Lib.hid (HB.out.trans (hb2.mono HB.out.size))
          clear hb2 HB
          go_wp2
          go_loopg [6, 7] (s.size + 1) (fun g2 v6 v7 wq => ∃ deep j : Nat, v6 = .int .i64 deep ∧ v7 = .int .i64 j ∧ deep ≤ j ∧ j ≤ 2000000000 ∧ s.size - j < g2 ∧ (1 ≤ deep ∨ j ≤ s.size) ∧ Hid (if deep = 0 then N = some j else nestE s [40, 42] [42, 41] j (deep : Int) = N) ∧ Hid (Below w.heap.size w wq))
          case atStart => exact ⟨1, i + 2, rfl, by go_num, by omega, by omega, by omega, .inl (Nat.le_refl _), HS, HB2⟩
          case round =>
            clear HS HB2
            obtain ⟨deep, j, rfl, rfl, hdj, hj, hg2, hjd, HS, HB⟩ := hrel
            have hsn := HS.out
            by_cases hd0 : deep = 0
            · subst hd0
              rw [if_pos rfl] at hsn
              subst hsn
              have hl := nestE_le (by omega) HN.out
              have hgt := nestE_lt (by decide) (by decide) (by omega) HN.out
              have hr := HR.out
              rw [blanksE_step s i (by omega) (by rw [HWm.out]; exact HP.out) (by rw [HWm.out]; exact HN.out)] at hr
              have HR := Lib.hid hr
              have Hl := Lib.hid hl
              have Hgt := Lib.hid hgt
              clear hr hl hgt HS HN
              go_wp2
              go_roundg (s.size - i)
              case measure => omega
              case rel => exact ⟨j, rfl, Hl.out.2, by have := Hl.out; have := Hgt.out; omega, HR, HB⟩
            · rw [if_neg hd0] at hsn
              have hdz : (0 : Int) < (deep : Int) := by omega
              by_cases hjl : j < s.size
              · have hjz : ¬ (s.size : Int) ≤ (j : Int) := by omega
                have HO2 := Lib.hid (c_cb s j hs (by omega) wr)
                have HC2 := Lib.hid (fun W => c_ce s j hs (by omega) W)
                have HB0 := HB
                cases hb : preAt s j [40, 42] with
                | true =>
                  have hlb := preAt_le hb (by omega)
                  simp only [List.length_cons, List.length_nil] at hlb
                  have hD : stepD s [40, 42] [42, 41] j = 1 := by unfold stepD; rw [if_pos hb]
                  have hW : stepW s [40, 42] [42, 41] j = 2 := by unfold stepW; rw [if_pos hb]; rfl
                  rw [nestE_step _ _ _ (by decide) (by decide) _ _ hjl (by rw [hD]; omega), hD, hW] at hsn
                  have HS := Lib.hid (show (if deep + 1 = 0 then N = some (j + 2) else nestE s [40, 42] [42, 41] (j + 2) ((deep + 1 : Nat) : Int) = N) from by rw [if_neg (by omega)]; exact hsn)
                  rw [hb] at HO2
                  clear hb hD hW hsn
                  go_wp2_with fail
                  refine (HO2.out).mono ?_
                  rintro e w3 ⟨rfl, hb3⟩
                  have HB3 := Lib.hid (HB0.out.trans (hb3.mono HB0.out.size))
                  clear hb3
                  go_wp2
                  go_roundg (s.size - j)
                  case measure => omega
                  case rel => exact ⟨deep + 1, j + 2, by go_num, by go_num, by omega, by omega, by omega, .inl (by omega), HS, HB3⟩
                | false =>
                  rw [hb] at HO2
                  cases he : preAt s j [42, 41] with
                  | true =>
                    have hlb := preAt_le he (by omega)
                    simp only [List.length_cons, List.length_nil] at hlb
                    have hD : stepD s [40, 42] [42, 41] j = -1 := by unfold stepD; rw [if_neg (by rw [hb]; decide), if_pos he]
                    have hW : stepW s [40, 42] [42, 41] j = 2 := by unfold stepW; rw [if_neg (by rw [hb]; decide), if_pos he]; rfl
                    rw [he] at HC2
                    have HS : Hid (if deep - 1 = 0 then N = some (j + 2) else nestE s [40, 42] [42, 41] (j + 2) ((deep - 1 : Nat) : Int) = N) := Lib.hid (by
                      by_cases hz : deep = 1
                      · rw [if_pos (by omega)]
                        rw [nestE_stop _ _ _ _ _ hjl (by rw [hD]; omega), hW] at hsn
                        exact hsn.symm
                      · rw [if_neg (by omega)]
                        rw [nestE_step _ _ _ (by decide) (by decide) _ _ hjl (by rw [hD]; omega), hD, hW, show (deep : Int) + -1 = ((deep - 1 : Nat) : Int) by omega] at hsn
                        exact hsn)
                    clear hb he hD hW hsn
                    go_wp2_with fail
                    refine (HO2.out).mono ?_
                    rintro e w3 ⟨rfl, hb3⟩
                    have HB3 := Lib.hid (HB0.out.trans (hb3.mono HB0.out.size))
                    clear hb3
                    go_wp2_with fail
                    refine (HC2.out _).mono ?_
                    rintro e w4 ⟨rfl, hb4⟩
                    have HB4 := Lib.hid (HB3.out.trans (hb4.mono HB3.out.size))
                    clear hb4
                    go_wp2
                    go_roundg (s.size - j)
                    case measure => omega
                    case rel => exact ⟨deep - 1, j + 2, by congr 1; omega, by go_num, by omega, by omega, by omega, .inr (by omega), HS, HB4⟩
                  | false =>
                    have hD : stepD s [40, 42] [42, 41] j = 0 := by unfold stepD; rw [if_neg (by rw [hb]; decide), if_neg (by rw [he]; decide)]
                    have hW : stepW s [40, 42] [42, 41] j = 1 := by unfold stepW; rw [if_neg (by rw [hb]; decide), if_neg (by rw [he]; decide)]
                    rw [nestE_step _ _ _ (by decide) (by decide) _ _ hjl (by rw [hD]; omega), hD, hW, Int.add_zero] at hsn
                    have HS := Lib.hid (show (if deep = 0 then N = some (j + 1) else nestE s [40, 42] [42, 41] (j + 1) (deep : Int) = N) from by rw [if_neg hd0]; exact hsn)
                    rw [he] at HC2
                    clear hb he hD hW hsn
                    go_wp2_with fail
                    refine (HO2.out).mono ?_
                    rintro e w3 ⟨rfl, hb3⟩
                    have HB3 := Lib.hid (HB0.out.trans (hb3.mono HB0.out.size))
                    clear hb3
                    go_wp2_with fail
                    refine (HC2.out _).mono ?_
                    rintro e w4 ⟨rfl, hb4⟩
                    have HB4 := Lib.hid (HB3.out.trans (hb4.mono HB3.out.size))
                    clear hb4
                    go_wp2
                    go_roundg (s.size - j)
                    case measure => omega
                    case rel => exact ⟨deep, j + 1, rfl, by go_num, by omega, by omega, by omega, .inl (by omega), HS, HB4⟩
              · have hjz : (s.size : Int) ≤ (j : Int) := by omega
                rw [nestE_end _ _ _ _ _ (by omega)] at hsn
                subst hsn
                have hr := HR.out
                rw [blanksE_err s i (by rw [HWm.out]; exact HP.out) (by rw [HWm.out]; exact HN.out), HWm.out] at hr
                obtain ⟨rfl, rfl⟩ := Prod.mk.inj hr
                clear hr HN HS
                go_wp2
                go_ret2
                exact ⟨rfl, HB.out⟩
    · obtain rfl : i = s.size := by omega
      have hltz : ¬ (s.size : Int) < (s.size : Int) := by omega
      have hr := HR.out
      rw [blanksE_none s s.size (by
        rw [whileE_end _ _ _ (Nat.le_refl _), Bool.eq_false_iff]
        intro h
        have := preAt_le h (Nat.le_refl _)
        simp at this; omega), whileE_end _ _ _ (Nat.le_refl _)] at hr
      obtain ⟨rfl, rfl⟩ := Prod.mk.inj hr
      go_wp2
      go_ret2
      exact ⟨rfl, HB.out⟩
theorem c_blanks (s : ByteArray) (i : Nat) (hs : s.size ≤ 1000000000) (hi : i ≤ s.size) (w : World) : Calls Tryz.prog 40 #[.string s, .int .i64 i] w fun e w' => e = .returned (.tuple #[.int .i64 (blP (blanksE s i)).1, .int .i64 (blP (blanksE s i)).2]) ∧ Below w.heap.size w w' := blanks_calls s i hs hi w
end Go.Proofs.YtmkfeanggmjhmaaGreat.V
