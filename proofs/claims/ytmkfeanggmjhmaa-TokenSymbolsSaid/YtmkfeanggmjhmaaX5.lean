/- Walks: Symbols, Plain, and the statement TokenSymbols. -/
import Derived.Test.YtmkfeanggmjhmaaX4
import Derived.Test.YtmkfeanggmjhmaaS12
namespace Go.Proofs.Ytmkfeanggmjhmaa.X
open Go Go.RowKit Go.Proofs.YtmkfeanggmjhmaaW.PrintWords Go.Proofs.YtmkfeanggmjhmaaW.PrintLast Go.Proofs.YtmkfeanggmjhmaaW.PrintMore
open Go.Proofs.Ytmkfeanggmjhmaa.M Go.Proofs.Ytmkfeanggmjhmaa.K Go.Proofs.Ytmkfeanggmjhmaa.PTokenSymbols
set_option linter.unusedSimpArgs false
set_option linter.unusedVariables false

theorem exE_len {ps : Pairs} (ok : Ok ps) (h20 : ∀ p ∈ ps, p.2.length ≤ 20) : ∀ n s, s.length ≤ n → (exE ps s).length ≤ 20 * s.length := by
  intro n
  induction n using Nat.strongRecOn with
  | _ n ih =>
    intro s hn
    cases s with
    | nil => simp [exE_nil]
    | cons c r =>
      simp only [List.length_cons] at hn
      cases hh : hit ps (c :: r) with
      | none =>
        rw [exE_miss hh, List.length_cons, List.length_cons]
        have := ih r.length (by omega) r (Nat.le_refl _)
        omega
      | some p =>
        rw [exE_hit ok (List.cons_ne_nil c r) hh, List.length_append]
        have h1 := ok p (hit_mem hh).1
        have h2 := h20 p (hit_mem hh).1
        have h3 : ((c :: r).drop p.1.length).length = r.length + 1 - p.1.length := by rw [List.length_drop, List.length_cons]
        have := ih ((c :: r).drop p.1.length).length (by omega) _ (Nat.le_refl _)
        rw [List.length_cons]
        omega
theorem symbols_size (s : ByteArray) : (symbolsE s).size ≤ 20 * s.size := by
  have := exE_len okSigns (by decide) _ s.data.toList (Nat.le_refl _)
  have e1 : (symbolsE s).size = (exE signPairs s.data.toList).length := by simp [symbolsE, ByteArray.size]
  have e2 : s.data.toList.length = s.size := rfl
  omega

theorem Symbols_calls (s : ByteArray) (w : World) (hs : s.size ≤ 1000000000000) :
    Calls Try.prog 15 #[.string s] w fun r w' => r = .returned (.string (symbolsE s)) ∧ Below w.heap.size w w' := by
  have HX := Lib.hid (fun w => exchanged_signs s w hs)
  unfold symbolsE
  generalize (⟨(exE signPairs s.data.toList).toArray⟩ : ByteArray) = R at HX
  go_enter Try.func15, Try.ntmps15
  go_wp2_with fail
  refine (HX.out _).mono ?_
  rintro e w1 ⟨rfl, hb1⟩
  go_wp2
  go_ret
  exact ⟨rfl, hb1⟩
theorem Plain_calls (s : ByteArray) (w : World) (hs : s.size ≤ 1000000000000) :
    Calls Try.prog 17 #[.string s] w fun r w' => r = .returned (.string (plainE s)) ∧ Below w.heap.size w w' := by
  have HX := Lib.hid (fun w => exchanged_turned s w hs)
  unfold plainE
  generalize (⟨(exE (turned signPairs) s.data.toList).toArray⟩ : ByteArray) = R at HX
  go_enter Try.func17, Try.ntmps17
  go_wp2_with fail
  refine (HX.out _).mono ?_
  rintro e w1 ⟨rfl, hb1⟩
  go_wp2
  go_ret
  exact ⟨rfl, hb1⟩

theorem TokenSymbols_calls (s : ByteArray) (w : World) :
    Calls Try.prog 5 #[.string s] w fun r w' => r = .returned (.bool true) ∧ Below w.heap.size w w' := by
  have HA := Lib.hid (fun w => S.awake_calls w)
  by_cases h : 2000 < s.size
  · have g : (2000 : Int) < (s.size : Int) := by omega
    go_enter Try.func5, Try.ntmps5
    go_wp2_with fail
    refine (HA.out _).mono ?_
    rintro e6 w6 ⟨rfl, hb6⟩
    go_wp2
    go_ret
    exact ⟨rfl, hb6⟩
  · have g : ¬ (2000 : Int) < (s.size : Int) := by omega
    obtain ⟨k1, hk1⟩ := (Symbols_ev s (by omega)).at_
    obtain ⟨k2, hk2⟩ := (Plain_ev s (by omega)).at_
    have hz := symbols_size s
    have HS := Lib.hid (fun w => Symbols_calls s w (by omega))
    have HP := Lib.hid (fun w => Plain_calls s w (by omega))
    have HPS := Lib.hid (fun w => Plain_calls (symbolsE s) w (by omega))
    have HRS := Lib.hid (fun w => triforiumref14_Symbols.calls k1 s _ w hk1)
    have HRP := Lib.hid (fun w => triforiumref14_Plain.calls k2 s _ w hk2)
    rw [plain_of_symbols] at HPS
    clear hk1 hk2 hz h
    generalize symbolsE s = S at HS HPS HRS
    generalize plainE s = P at HP HPS HRP
    go_enter Try.func5, Try.ntmps5
    go_wp2_with fail
    refine (HS.out _).mono ?_
    rintro e w1 ⟨rfl, hb1⟩
    go_wp2_with fail
    refine (HRS.out _).mono ?_
    rintro e w2 ⟨rfl, hb2⟩
    go_wp2_with fail
    refine (HP.out _).mono ?_
    rintro e w3 ⟨rfl, hb3⟩
    go_wp2_with fail
    refine (HRP.out _).mono ?_
    rintro e w4 ⟨rfl, hb4⟩
    go_wp2_with fail
    refine (HPS.out _).mono ?_
    rintro e w5 ⟨rfl, hb5⟩
    go_wp2_with fail
    refine (HP.out _).mono ?_
    rintro e w6 ⟨rfl, hb6⟩
    go_wp2_with fail
    refine (HA.out _).mono ?_
    rintro e w7 ⟨rfl, hb7⟩
    go_wp2
    go_ret
    have z1 := hb1.size
    have z2 := hb2.size
    have z3 := hb3.size
    have z4 := hb4.size
    have z5 := hb5.size
    have z6 := hb6.size
    exact ⟨rfl, (((((hb1.trans (hb2.mono (by omega))).trans (hb3.mono (by omega))).trans (hb4.mono (by omega))).trans (hb5.mono (by omega))).trans (hb6.mono (by omega))).trans (hb7.mono (by omega))⟩
end Go.Proofs.Ytmkfeanggmjhmaa.X
