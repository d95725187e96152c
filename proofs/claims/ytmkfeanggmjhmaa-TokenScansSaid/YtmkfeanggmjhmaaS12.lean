/- Walks: whether keywords and a text are few; whether the scanner answers at all. -/
import Derived.Test.YtmkfeanggmjhmaaS11
namespace Go.Proofs.Ytmkfeanggmjhmaa.S
open Go Go.RowKit Go.Shelf Go.Proofs.YtmkfeanggmjhmaaW.PrintWords Go.Proofs.YtmkfeanggmjhmaaW.PrintLast Go.Proofs.YtmkfeanggmjhmaaW.PrintMore
open Go.Proofs.Ytmkfeanggmjhmaa.M Go.Proofs.Ytmkfeanggmjhmaa.K
set_option linter.unusedSimpArgs false
set_option linter.unusedVariables false

theorem Few1_calls (s : ByteArray) (w : World) :
    Calls Try.prog 20 #[.string s] w fun r w' => r = .returned (.bool (decide (60 < s.size))) ∧ w' = w := by
  by_cases h : 60 < s.size
  · have g : (60 : Int) < (s.size : Int) := by omega
    rw [decide_eq_true h]
    go_enter Try.func20, Try.ntmps20
    go_wp2
    go_ret
    exact ⟨rfl, rfl⟩
  · have g : ¬ (60 : Int) < (s.size : Int) := by omega
    rw [decide_eq_false h]
    go_enter Try.func20, Try.ntmps20
    go_wp2
    go_ret
    exact ⟨rfl, rfl⟩

theorem IndexFunc_calls (A : Option Addr) (c : Nat) (l : List ByteArray) (hc : l.length ≤ c) (w : World) (hr : Kd.C Kd.string w A l.length l) (hl : l.length ≤ 1000000000000) :
    Calls Try.prog 31 #[.slice A l.length c, .func (.func 20) #[] #[]] w fun r w' =>
      (∃ i : Int, r = .returned (.int .i64 i) ∧ (decide (0 ≤ i) = l.any (fun x => decide (60 < x.size)))) ∧ w' = w := by
  have Hr := Lib.hid hr
  clear hr
  generalize hB : l.any (fun x => decide (60 < x.size)) = B
  have HB := Lib.hid hB
  clear hB
  go_enter Try.func31, Try.ntmps31
  go_wp2
  go_loopg [8] l.length (fun gg v wr => ∃ k : Nat, v = .int .i64 k ∧ k ≤ l.length ∧ l.length - k ≤ gg ∧ Hid ((l.drop k).any (fun x => decide (60 < x.size)) = B) ∧ wr = w)
  case atStart => exact ⟨0, rfl, by omega, by omega, by simpa using HB, rfl⟩
  case round =>
    obtain ⟨k, rfl, hk, hg, HL, rfl⟩ := hrel
    by_cases hlt : k < l.length
    · have hltz : (k : Int) < (l.length : Int) := by omega
      obtain ⟨ad, rfl, hcell⟩ := str_at Hr.out k hlt
      have Hd : Hid (l.drop k = (l[k]'hlt) :: l.drop (k + 1)) := List.drop_eq_getElem_cons hlt
      generalize l[k]'hlt = x at hcell Hd
      have HF := Lib.hid (fun w => Few1_calls x w)
      rw [Hd.out, List.any_cons] at HL
      by_cases h60 : 60 < x.size
      · rw [decide_eq_true h60] at HF HL
        rw [Bool.true_or] at HL
        obtain rfl := HL.out
        clear h60
        go_wp2_with (go_at_call 20; refine (HF.out _).mono ?_; rintro e w' ⟨rfl, rfl⟩)
        go_ret
        exact ⟨⟨_, rfl, by simp⟩, rfl⟩
      · rw [decide_eq_false h60] at HF HL
        rw [Bool.false_or] at HL
        clear h60
        go_wp2_with (go_at_call 20; refine (HF.out _).mono ?_; rintro e w' ⟨rfl, rfl⟩)
        go_roundg (l.length - (k + 1))
        case measure => omega
        case rel => exact ⟨k + 1, by go_num, by omega, Nat.le_refl _, HL, rfl⟩
    · have hltz : ¬ (k : Int) < (l.length : Int) := by omega
      have h0 := HL.out
      rw [List.drop_eq_nil_of_le (by omega)] at h0
      clear HL
      obtain rfl : false = B := by simpa using h0
      clear h0
      go_wp2
      go_ret
      exact ⟨⟨_, rfl, by simp⟩, rfl⟩

theorem ContainsFunc_calls (A : Option Addr) (c : Nat) (l : List ByteArray) (hc : l.length ≤ c) (w : World) (hr : Kd.C Kd.string w A l.length l) (hl : l.length ≤ 1000000000000) :
    Calls Try.prog 19 #[.slice A l.length c, .func (.func 20) #[] #[]] w fun r w' =>
      r = .returned (.bool (l.any (fun x => decide (60 < x.size)))) ∧ w' = w := by
  have HI := Lib.hid (IndexFunc_calls A c l hc w hr hl)
  clear hr
  generalize l.any (fun x => decide (60 < x.size)) = B at HI
  go_enter Try.func19, Try.ntmps19
  go_wp2_with fail
  refine HI.out.mono ?_
  rintro e w' ⟨⟨i, rfl, hi⟩, rfl⟩
  subst hi
  go_wp2
  go_ret
  exact ⟨rfl, rfl⟩

def fewB (most : Int) (l : List ByteArray) (s : ByteArray) : Bool := decide (l.length ≤ 20) && decide ((s.size : Int) ≤ most) && !(l.any (fun x => decide (60 < x.size)))
theorem Few_calls (most : Int) (A : Option Addr) (c : Nat) (l : List ByteArray) (hc : l.length ≤ c) (s : ByteArray) (w : World) (hr : Kd.C Kd.string w A l.length l) :
    Calls Try.prog 6 #[.int .i64 most, .slice A l.length c, .string s] w fun r w' => r = .returned (.bool (fewB most l s)) ∧ w' = w := by
  unfold fewB
  by_cases h20 : l.length ≤ 20
  · have HI := Lib.hid (ContainsFunc_calls A c l hc w hr (by omega))
    clear hr
    rw [decide_eq_true h20, Bool.true_and]
    have g20 : (l.length : Int) ≤ 20 := by omega
    generalize l.any (fun x => decide (60 < x.size)) = B at HI ⊢
    by_cases hm : (s.size : Int) ≤ most
    · rw [decide_eq_true hm, Bool.true_and]
      clear h20
      go_enter Try.func6, Try.ntmps6
      go_wp2_with (go_at_call 19; refine HI.out.mono ?_; rintro e w' ⟨rfl, rfl⟩)
      go_ret
      exact ⟨rfl, rfl⟩
    · rw [decide_eq_false hm, Bool.false_and]
      clear h20
      go_enter Try.func6, Try.ntmps6
      go_wp2
      go_ret
      exact ⟨rfl, rfl⟩
  · clear hr
    rw [decide_eq_false h20, Bool.false_and, Bool.false_and]
    have g20 : ¬ (l.length : Int) ≤ 20 := by omega
    clear h20
    go_enter Try.func6, Try.ntmps6
    go_wp2
    go_ret
    exact ⟨rfl, rfl⟩

theorem awake_calls (w : World) : Calls Try.prog 7 #[] w fun r w' => r = .returned (.bool true) ∧ Below w.heap.size w w' := by
  have HS := Lib.hid (Scan_calls none 0 [] (by simp) (Nat.le_refl _) ⟨#[97]⟩ w ⟨rfl, by decide, fun h => absurd h (by decide)⟩)
  have e : scanAll [] ⟨#[97]⟩ = ([⟨1, ⟨#[97]⟩, 0⟩], 0, 0) := by kernel_rfl
  rw [e] at HS
  clear e
  unfold ScanAllEnd at HS
  simp only at HS
  change Hid (Calls _ _ #[.slice none 0 0, _] _ _) at HS
  go_enter Try.func7, Try.ntmps7
  go_wp2_with fail
  refine HS.out.mono ?_
  rintro e w' ⟨v, rfl, ho, hb⟩
  obtain ⟨A2, cp, rfl⟩ := own_slice ho
  clear ho
  go_wp2
  go_ret
  exact ⟨rfl, hb⟩
end Go.Proofs.Ytmkfeanggmjhmaa.S
