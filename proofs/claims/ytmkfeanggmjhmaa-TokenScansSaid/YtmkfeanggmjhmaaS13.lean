/- The walk of the law TokenScans: it returns true. -/
import Derived.Test.YtmkfeanggmjhmaaS12
import Derived.Test.YtmkfeanggmjhmaaL7
namespace Go.Proofs.Ytmkfeanggmjhmaa.S
open Go Go.RowKit Go.Shelf Go.Proofs.YtmkfeanggmjhmaaW.PrintWords Go.Proofs.YtmkfeanggmjhmaaW.PrintLast Go.Proofs.YtmkfeanggmjhmaaW.PrintMore
open Go.Proofs.Ytmkfeanggmjhmaa.M Go.Proofs.Ytmkfeanggmjhmaa.K Go.Proofs.Ytmkfeanggmjhmaa.E Go.Proofs.Ytmkfeanggmjhmaa.PTokenScans
set_option linter.unusedSimpArgs false
set_option linter.unusedVariables false

theorem tok_reps (w : World) (base : Nat) (ok : Nat → Prop) : ∀ (l : Nat) (xs : List Tok), xs.length ≤ l → Reps (k36.M w base ok) 3 (xs.map L.s36) (xs.flatMap tokCells) := by
  intro l
  induction l with
  | zero =>
    intro xs h
    obtain rfl : xs = [] := List.eq_nil_of_length_eq_zero (by omega)
    exact Reps.none _ _
  | succ l ih =>
    intro xs h
    rcases xs.eq_nil_or_concat with rfl | ⟨ys, y, rfl⟩
    · exact Reps.none _ _
    · have := Reps.snoc (ih ys (by simp at h; omega)) (k36_mkM w base ok (L.s36 y)) rfl
      rw [List.concat_eq_append, List.map_append, List.flatMap_append]
      simpa [tokCells, L.s36] using this
theorem TokRow.kd {w : World} {base : Nat} {v : Value} {xs : List Tok} (h : TokRow w base v xs) : Kd.R k36 36 w base (fun _ => True) v (xs.map L.s36) := by
  refine ⟨fun _ _ => trivial, xs.flatMap tokCells, ?_, tok_reps w base _ _ xs (Nat.le_refl _)⟩
  rw [List.length_map]
  exact h

theorem all_ref (l : List ByteArray) (s : ByteArray) : scanAll l s = L.scanRef l s := rfl

theorem few_sizes {most : Int} {l : List ByteArray} {s : ByteArray} (h : fewB most l s = true) : l.length ≤ 20 ∧ (s.size : Int) ≤ most ∧ ∀ x ∈ l, x.size ≤ 60 := by
  unfold fewB at h
  simp only [Bool.and_eq_true, decide_eq_true_eq, Bool.not_eq_true', List.any_eq_false, Bool.not_eq_true] at h
  refine ⟨h.1.1, h.1.2, fun x hx => ?_⟩
  have := h.2 x hx
  simp at this
  exact this

set_option maxHeartbeats 2000000 in
theorem TokenScans_calls (A : Option Addr) (c : Nat) (l : List ByteArray) (hc : l.length ≤ c) (s : ByteArray) (w : World) (hr : Kd.C Kd.string w A l.length l) :
    Calls Try.prog 3 #[.slice A l.length c, .string s] w fun r w' => r = .returned (.bool true) ∧ Below w.heap.size w w' := by
  have HF := Lib.hid (fun w hr => Few_calls 800 A c l hc s w hr)
  have HA := Lib.hid awake_calls
  have Hr := Lib.hid hr
  clear hr
  cases hf : fewB 800 l s with
  | false =>
    rw [hf] at HF
    clear hf
    go_enter Try.func3, Try.ntmps3
    go_wp2_with fail
    refine (HF.out _ Hr.out).mono ?_
    rintro e w' ⟨rfl, rfl⟩
    go_wp2_with fail
    refine (HA.out _).mono ?_
    rintro e w2 ⟨rfl, hb⟩
    go_wp2
    go_ret
    exact ⟨rfl, hb⟩
  | true =>
    rw [hf] at HF
    obtain ⟨hl20, hs8, hx⟩ := few_sizes hf
    clear hf
    have hC := L.Check_ev l (fun x h => Nat.le_trans (hx x h) (by decide))
    have hS := L.Scan_ev l (fun x h => Nat.le_trans (hx x h) (by decide)) s
    have hlen := L.scanRef_len l s
    have hM := L.Same_ev (L.scanRef l s).1 (by omega)
    obtain ⟨k1, hk1⟩ := hC.at_
    obtain ⟨k2, hk2⟩ := hS.at_
    obtain ⟨k3, hk3⟩ := hM.at_
    have HC1 := Lib.hid (fun w hr => Check_calls A c l (fun x h => Nat.le_trans (hx x h) (by decide)) hc w hr)
    have HC2 := Lib.hid (fun w hr => triforiumref14_Check.calls k1 A c l _ w hr hc hk1)
    have HS1 := Lib.hid (fun w hr => Scan_calls A c l (fun x h => Nat.le_trans (hx x h) (by decide)) hc s w hr)
    rw [all_ref] at HS1
    have HS2 := Lib.hid (fun w hr => triforiumref14_Scan.calls k2 A c l s _ _ _ w hr hc hk2)
    have HM := Lib.hid (fun A0 c0 A1 c1 w h0 h1 h2 h3 => triforiumlaw14_Same.calls k3 A0 c0 ((L.scanRef l s).1.map L.s36) A1 c1 ((L.scanRef l s).1.map L.s49) true w h0 h1 h2 h3 hk3)
    clear hC hS hM hk1 hk2 hk3 hlen hx hs8 hl20
    unfold ScanAllEnd at HS1
    generalize L.scanRef l s = R at HS1 HS2 HM
    obtain ⟨xs, q, e⟩ := R
    simp only [List.length_map] at HS1 HS2 HM
    generalize checkE l = E at HC1 HC2
    go_enter Try.func3, Try.ntmps3
    go_wp2_with fail
    refine (HF.out _ Hr.out).mono ?_
    rintro e w' ⟨rfl, rfl⟩
    go_wp2_with fail
    refine (HC1.out _ Hr.out).mono ?_
    rintro e w1 ⟨rfl, hb1⟩
    have Hr1 := Lib.hid (Kd.C_below Hr.out hb1)
    go_wp2_with fail
    refine (HC2.out _ Hr1.out).mono ?_
    rintro e w2 ⟨rfl, ⟨nd, rfl⟩⟩
    go_wp2_with fail
    have Hr2 := Lib.hid (Kd.C_below Hr1.out (below_drewN (Below.refl _ _) nd))
    refine (HS1.out _ Hr2.out).mono ?_
    rintro e3 w3 ⟨v, rfl, ho, hb3⟩
    obtain ⟨A3, c3, rfl, hc3, hC3⟩ := Kd.R_reads (TokRow.kd ho)
    have Hr3 := Lib.hid (Kd.C_below Hr2.out hb3)
    have HC3 := Lib.hid hC3
    have HL3 := Lib.hid hc3
    clear ho hC3 hc3
    rw [List.length_map] at HL3 HC3
    simp only [List.length_map]
    go_wp2_with fail
    refine (HS2.out _ Hr3.out).mono ?_
    rintro e4 w4 ⟨v, rfl, ho, hb4⟩
    obtain ⟨A4, c4, rfl, hc4, hC4⟩ := Kd.R_reads ho
    have HC3' := Lib.hid (Kd.C_below HC3.out hb4)
    have HC4 := Lib.hid hC4
    have HL4 := Lib.hid hc4
    clear ho hC4 hc4
    rw [List.length_map] at HL4 HC4
    simp only [List.length_map]
    go_wp2_with fail
    refine (HM.out _ _ _ _ _ HC3'.out HL3.out HC4.out HL4.out).mono ?_
    rintro e5 w5 ⟨rfl, hb5⟩
    go_wp2_with fail
    refine (HA.out _).mono ?_
    rintro e6 w6 ⟨rfl, hb6⟩
    go_wp2
    go_ret
    refine ⟨rfl, ?_⟩
    have z1 := hb1.size
    have z3 := hb3.size
    have z4 := hb4.size
    have z5 := hb5.size
    have zd : (w1.drewN nd).heap.size = w1.heap.size := rfl
    exact ((((hb1.trans (below_drewN (Below.refl _ _) nd)).trans (hb3.mono (by omega))).trans (hb4.mono (by omega))).trans (hb5.mono (by omega))).trans (hb6.mono (by omega))
end Go.Proofs.Ytmkfeanggmjhmaa.S
