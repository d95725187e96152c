-- PRINTED BY print.sh 35421559b90ae4d0a3588c463048766b98c2df88dd9212a6774a882060cdf62d: not written by this session
import Derived.Test.YtmkfeanggmjhmaaPTokenSymbolsx0
namespace Go.Proofs.Ytmkfeanggmjhmaa.PTokenSymbols
open Go.RowKit Go.Proofs.YtmkfeanggmjhmaaW.PrintWords Go.Proofs.YtmkfeanggmjhmaaW.PrintLast Go.Proofs.YtmkfeanggmjhmaaW.PrintMore
attribute [local go_sem] max2_int min2_int max_two min_two max_three min_three max_four min_four   -- for this text's walks alone
set_option linter.unusedVariables false
set_option linter.unusedSimpArgs false

/-! ### token_letter: function 61 -/
def token_letter.f (a0 : Int) : Option (Bool) := if (Go.bits .or .u8 a0 32) ≥ 97 then (if (Go.bits .or .u8 a0 32) ≤ 122 then (some true) else (some (a0 == 95))) else (some (a0 == 95))
set_option maxHeartbeats 8000000 in
set_option maxRecDepth 100000 in
theorem token_letter.calls (a0 : Int) (r : Bool) (w : World) (h : token_letter.f a0 = some r) :
    Calls Try.prog 61 #[.int .u8 a0] w fun e w' => e = .returned (.bool r) ∧ Drawn0 w w' := by
  have H : (if (Go.bits .or .u8 a0 32) ≥ 97 then (if (Go.bits .or .u8 a0 32) ≤ 122 then (some true) else (some (a0 == 95))) else (some (a0 == 95))) = some r := h
  clear h
  by_cases c2 : (Go.bits .or .u8 a0 32) ≥ 97
  · rw [if_pos c2] at H
    have c2b0 : decide (97 ≤ (Go.bits .or .u8 a0 32)) = true := decide_eq_true c2
    clear c2
    by_cases c3 : (Go.bits .or .u8 a0 32) ≤ 122
    · rw [if_pos c3] at H
      have c3b0 : decide ((Go.bits .or .u8 a0 32) ≤ 122) = true := decide_eq_true c3
      clear c3
      obtain rfl := Option.some.inj H
      go_enter Try.func61, Try.ntmps61
      go_wp2
      go_ret
      exact ⟨by first | rfl | (simp; done) | (simp [*]; done), by repeat (first | exact Drawn0.refl _ | apply Drawn0.step)⟩
    · rw [if_neg c3] at H
      have c3b0 : decide ((Go.bits .or .u8 a0 32) ≤ 122) = false := decide_eq_false c3
      clear c3
      obtain rfl := Option.some.inj H
      go_enter Try.func61, Try.ntmps61
      go_wp2
      go_ret
      exact ⟨by first | rfl | (simp; done) | (simp [*]; done), by repeat (first | exact Drawn0.refl _ | apply Drawn0.step)⟩
  · rw [if_neg c2] at H
    have c2b0 : decide (97 ≤ (Go.bits .or .u8 a0 32)) = false := decide_eq_false c2
    clear c2
    obtain rfl := Option.some.inj H
    go_enter Try.func61, Try.ntmps61
    go_wp2
    go_ret
    exact ⟨by first | rfl | (simp; done) | (simp [*]; done), by repeat (first | exact Drawn0.refl _ | apply Drawn0.step)⟩

-- NOT PRINTED: function 62 (token_while)

-- NOT PRINTED: function 50 (token_ident)

-- NOT PRINTED: function 51 (token_run)

/-! ### stringslite_HasPrefix: function 75 -/
def stringslite_HasPrefix.f (a0 : ByteArray) (a1 : ByteArray) : Option (Bool) := if (a0.size : Int) ≥ (a1.size : Int) then (if 0 ≤ (a1.size : Int) then (if (a1.size : Int) ≤ (a0.size : Int) then (some ((a0.extract 0 ((a1.size : Int) : Int).toNat).toList == a1.toList)) else (none)) else (none)) else (some false)
set_option maxHeartbeats 8000000 in
set_option maxRecDepth 100000 in
theorem stringslite_HasPrefix.calls (a0 : ByteArray) (a1 : ByteArray) (r : Bool) (w : World) (h : stringslite_HasPrefix.f a0 a1 = some r) :
    Calls Try.prog 75 #[.string a0, .string a1] w fun e w' => e = .returned (.bool r) ∧ Drawn0 w w' := by
  have H : (if (a0.size : Int) ≥ (a1.size : Int) then (if 0 ≤ (a1.size : Int) then (if (a1.size : Int) ≤ (a0.size : Int) then (some ((a0.extract 0 ((a1.size : Int) : Int).toNat).toList == a1.toList)) else (none)) else (none)) else (some false)) = some r := h
  clear h
  by_cases c3 : (a0.size : Int) ≥ (a1.size : Int)
  · rw [if_pos c3] at H
    have c3b0 : decide ((a1.size : Int) ≤ (a0.size : Int)) = true := decide_eq_true c3
    have c3b1 : decide (a1.size ≤ a0.size) = true := decide_eq_true (Int.ofNat_le.mp c3)
    clear c3
    by_cases c4 : 0 ≤ (a1.size : Int)
    · rw [if_pos c4] at H
      have c4b0 := eq_true c4
      have c4b1 : decide (0 ≤ (a1.size : Int)) = true := decide_eq_true c4
      clear c4
      by_cases c5 : (a1.size : Int) ≤ (a0.size : Int)
      · rw [if_pos c5] at H
        have c5b0 := eq_true c5
        have c5b1 : decide ((a1.size : Int) ≤ (a0.size : Int)) = true := decide_eq_true c5
        clear c5
        obtain rfl := Option.some.inj H
        go_enter Try.func75, Try.ntmps75
        go_wp2
        go_ret
        exact ⟨by first | rfl | (simp; done) | (simp [*]; done), by repeat (first | exact Drawn0.refl _ | apply Drawn0.step)⟩
      · rw [if_neg c5] at H
        exact absurd H (by simp)
    · rw [if_neg c4] at H
      exact absurd H (by simp)
  · rw [if_neg c3] at H
    have c3b0 : decide ((a1.size : Int) ≤ (a0.size : Int)) = false := decide_eq_false c3
    have c3b1 : decide (a1.size ≤ a0.size) = false := decide_eq_false (fun h => c3 (Int.ofNat_le.mpr h))
    clear c3
    obtain rfl := Option.some.inj H
    go_enter Try.func75, Try.ntmps75
    go_wp2
    go_ret
    exact ⟨by first | rfl | (simp; done) | (simp [*]; done), by repeat (first | exact Drawn0.refl _ | apply Drawn0.step)⟩

/-! ### strings_HasPrefix: function 67 -/
def strings_HasPrefix.f (a0 : ByteArray) (a1 : ByteArray) : Option (Bool) := (stringslite_HasPrefix.f a0 a1).bind fun t102 => (some t102)
set_option maxHeartbeats 8000000 in
set_option maxRecDepth 100000 in
theorem strings_HasPrefix.calls (a0 : ByteArray) (a1 : ByteArray) (r : Bool) (w : World) (h : strings_HasPrefix.f a0 a1 = some r) :
    Calls Try.prog 67 #[.string a0, .string a1] w fun e w' => e = .returned (.bool r) ∧ Drawn0 w w' := by
  have H : ((stringslite_HasPrefix.f a0 a1).bind fun t102 => (some t102)) = some r := h
  clear h
  replace H := Option.bind_eq_some_iff.mp H
  obtain ⟨t102, A30, H⟩ := H
  replace H : (some t102) = some r := H
  have A3 := Aside0.mk A30
  clear A30
  obtain rfl := Option.some.inj H
  go_enter Try.func67, Try.ntmps67
  go_wp2_with (first | ((with_reducible refine gate_callee (f := 75) rfl ?_); refine goesL_ (some 7) rfl rfl Try.func75 (by kernel_rfl) rfl #[.string a0, .string a1] rfl (by (try simp only [List.map_toArray, List.map_cons, List.map_nil]); first | done | rfl | (simp only [List.length_drop, List.length_take]; rfl)) ?_; (with_reducible refine (stringslite_HasPrefix.calls a0 a1 t102 _ A3.out).mono ?_); rintro e w' ⟨rfl, ⟨nd, rfl⟩⟩; refine ⟨_, rfl, ?_⟩))
  go_ret
  exact ⟨by first | rfl | (simp; done) | (simp [*]; done), by repeat (first | exact Drawn0.refl _ | apply Drawn0.step)⟩

-- NOT PRINTED: function 52 (token_named)

-- NOT PRINTED: function 81 (bytealg_IndexByteString)

-- NOT PRINTED: function 77 (stringslite_IndexByte)

-- NOT PRINTED: function 66 (strings_IndexByte)

-- NOT PRINTED: function 53 (token_isPoint)

-- NOT PRINTED: function 32 (token_isKeyword)

-- NOT PRINTED: function 21 (token_words)

-- NOT PRINTED: function 38 (token_scanner_tokens)

-- NOT PRINTED: function 23 (token_scan)

-- NOT PRINTED: function 10 (token_Scan)

-- NOT PRINTED: function 7 (triforiumlaw14_awake)

-- NOT PRINTED: function 44 (token_pairs)

/-! ### stringslite_CutPrefix: function 59 -/
def stringslite_CutPrefix.f (a0 : ByteArray) (a1 : ByteArray) : Option (ByteArray × Bool) := (stringslite_HasPrefix.f a0 a1).bind fun t104 => (if t104 = true then (if 0 ≤ (a1.size : Int) then (if (a1.size : Int) ≤ (a0.size : Int) then (some (a0.extract ((a1.size : Int) : Int).toNat a0.size, true)) else (none)) else (none)) else (some (a0, false)))
set_option maxHeartbeats 8000000 in
set_option maxRecDepth 100000 in
theorem stringslite_CutPrefix.calls (a0 : ByteArray) (a1 : ByteArray) (r1 : ByteArray) (r2 : Bool) (w : World) (h : stringslite_CutPrefix.f a0 a1 = some (r1, r2)) :
    Calls Try.prog 59 #[.string a0, .string a1] w fun e w' => e = .returned (.tuple #[.string r1, .bool r2]) ∧ Drawn0 w w' := by
  have H : ((stringslite_HasPrefix.f a0 a1).bind fun t104 => (if t104 = true then (if 0 ≤ (a1.size : Int) then (if (a1.size : Int) ≤ (a0.size : Int) then (some (a0.extract ((a1.size : Int) : Int).toNat a0.size, true)) else (none)) else (none)) else (some (a0, false)))) = some (r1, r2) := h
  clear h
  replace H := Option.bind_eq_some_iff.mp H
  obtain ⟨t104, A30, H⟩ := H
  replace H : (if t104 = true then (if 0 ≤ (a1.size : Int) then (if (a1.size : Int) ≤ (a0.size : Int) then (some (a0.extract ((a1.size : Int) : Int).toNat a0.size, true)) else (none)) else (none)) else (some (a0, false))) = some (r1, r2) := H
  have A3 := Aside0.mk A30
  clear A30
  by_cases c4 : t104 = true
  · subst c4
    have H1 : (if 0 ≤ (a1.size : Int) then (if (a1.size : Int) ≤ (a0.size : Int) then (some (a0.extract ((a1.size : Int) : Int).toNat a0.size, true)) else (none)) else (none)) = some (r1, r2) := by rw [if_pos rfl] at H; exact H
    clear H
    have H := H1
    clear H1
    by_cases c5 : 0 ≤ (a1.size : Int)
    · rw [if_pos c5] at H
      have c5b0 := eq_true c5
      have c5b1 : decide (0 ≤ (a1.size : Int)) = true := decide_eq_true c5
      clear c5
      by_cases c6 : (a1.size : Int) ≤ (a0.size : Int)
      · rw [if_pos c6] at H
        have c6b0 := eq_true c6
        have c6b1 : decide ((a1.size : Int) ≤ (a0.size : Int)) = true := decide_eq_true c6
        clear c6
        simp only [Option.some.injEq, Prod.mk.injEq] at H
        obtain ⟨rfl, rfl⟩ := H
        go_enter Try.func59, Try.ntmps59
        go_wp2_with (first | ((with_reducible refine gate_callee (f := 75) rfl ?_); refine goesL_ (some 8) rfl rfl Try.func75 (by kernel_rfl) rfl #[.string a0, .string a1] rfl (by (try simp only [List.map_toArray, List.map_cons, List.map_nil]); first | done | rfl | (simp only [List.length_drop, List.length_take]; rfl)) ?_; (with_reducible refine (stringslite_HasPrefix.calls a0 a1 true _ A3.out).mono ?_); rintro e w' ⟨rfl, ⟨nd, rfl⟩⟩; refine ⟨_, rfl, ?_⟩))
        go_ret2
        exact ⟨by first | rfl | (simp; done) | (simp [*]; done), by repeat (first | exact Drawn0.refl _ | apply Drawn0.step)⟩
      · rw [if_neg c6] at H
        exact absurd H (by simp)
    · rw [if_neg c5] at H
      exact absurd H (by simp)
  · replace c4 := Bool.eq_false_iff.mpr c4
    subst c4
    have H1 : (some (a0, false)) = some (r1, r2) := by rw [if_neg (show ¬ (false = true) by decide)] at H; exact H
    clear H
    have H := H1
    clear H1
    simp only [Option.some.injEq, Prod.mk.injEq] at H
    obtain ⟨rfl, rfl⟩ := H
    go_enter Try.func59, Try.ntmps59
    go_wp2_with (first | ((with_reducible refine gate_callee (f := 75) rfl ?_); refine goesL_ (some 8) rfl rfl Try.func75 (by kernel_rfl) rfl #[.string a0, .string a1] rfl (by (try simp only [List.map_toArray, List.map_cons, List.map_nil]); first | done | rfl | (simp only [List.length_drop, List.length_take]; rfl)) ?_; (with_reducible refine (stringslite_HasPrefix.calls a0 a1 false _ A3.out).mono ?_); rintro e w' ⟨rfl, ⟨nd, rfl⟩⟩; refine ⟨_, rfl, ?_⟩))
    go_ret2
    exact ⟨by first | rfl | (simp; done) | (simp [*]; done), by repeat (first | exact Drawn0.refl _ | apply Drawn0.step)⟩

/-! ### strings_CutPrefix: function 45 -/
def strings_CutPrefix.f (a0 : ByteArray) (a1 : ByteArray) : Option (ByteArray × Bool) := (stringslite_CutPrefix.f a0 a1).bind fun bt105 => (some (bt105.1, bt105.2))
set_option maxHeartbeats 8000000 in
set_option maxRecDepth 100000 in
theorem strings_CutPrefix.calls (a0 : ByteArray) (a1 : ByteArray) (r1 : ByteArray) (r2 : Bool) (w : World) (h : strings_CutPrefix.f a0 a1 = some (r1, r2)) :
    Calls Try.prog 45 #[.string a0, .string a1] w fun e w' => e = .returned (.tuple #[.string r1, .bool r2]) ∧ Drawn0 w w' := by
  have H : ((stringslite_CutPrefix.f a0 a1).bind fun bt105 => (some (bt105.1, bt105.2))) = some (r1, r2) := h
  clear h
  replace H := Option.bind_eq_some_iff.mp H
  obtain ⟨⟨t105, t106⟩, A30, H⟩ := H
  replace H : (some (t105, t106)) = some (r1, r2) := H
  have A3 := Aside0.mk A30
  clear A30
  simp only [Option.some.injEq, Prod.mk.injEq] at H
  obtain ⟨rfl, rfl⟩ := H
  go_enter Try.func45, Try.ntmps45
  go_wp2_with (first | ((with_reducible refine gate_callee (f := 59) rfl ?_); refine goesL_ (some 8) rfl rfl Try.func59 (by kernel_rfl) rfl #[.string a0, .string a1] rfl (by (try simp only [List.map_toArray, List.map_cons, List.map_nil]); first | done | rfl | (simp only [List.length_drop, List.length_take]; rfl)) ?_; (with_reducible refine (stringslite_CutPrefix.calls a0 a1 t105 t106 _ A3.out).mono ?_); rintro e w' ⟨rfl, ⟨nd, rfl⟩⟩; refine ⟨_, rfl, ?_⟩))
  go_ret2
  exact ⟨by first | rfl | (simp; done) | (simp [*]; done), by repeat (first | exact Drawn0.refl _ | apply Drawn0.step)⟩

-- NOT PRINTED: function 76 (abi_NoEscape)

-- NOT PRINTED: function 60 (strings_Builder_copyCheck)

-- NOT PRINTED: function 46 (strings_Builder_WriteString)

-- NOT PRINTED: function 47 (strings_Builder_WriteByte)

-- NOT PRINTED: function 48 (strings_Builder_String)

-- NOT PRINTED: function 27 (token_exchanged)

-- NOT PRINTED: function 15 (token_Symbols)

/-! ### triforiumref14_starts: function 39 -/
def triforiumref14_starts.f (a0 : ByteArray) (a1 : Int) (a2 : ByteArray) : Option (Bool) := if (wrap64 (a1 + (a2.size : Int))) ≤ (a0.size : Int) then (if 0 ≤ a1 then (if a1 ≤ (wrap64 (a1 + (a2.size : Int))) then (some ((a0.extract (a1 : Int).toNat ((wrap64 (a1 + (a2.size : Int))) : Int).toNat).toList == a2.toList)) else (none)) else (none)) else (some false)
set_option maxHeartbeats 8000000 in
set_option maxRecDepth 100000 in
theorem triforiumref14_starts.calls (a0 : ByteArray) (a1 : Int) (a2 : ByteArray) (r : Bool) (w : World) (h : triforiumref14_starts.f a0 a1 a2 = some r) :
    Calls Try.prog 39 #[.string a0, .int .i64 a1, .string a2] w fun e w' => e = .returned (.bool r) ∧ Drawn0 w w' := by
  have H : (if (wrap64 (a1 + (a2.size : Int))) ≤ (a0.size : Int) then (if 0 ≤ a1 then (if a1 ≤ (wrap64 (a1 + (a2.size : Int))) then (some ((a0.extract (a1 : Int).toNat ((wrap64 (a1 + (a2.size : Int))) : Int).toNat).toList == a2.toList)) else (none)) else (none)) else (some false)) = some r := h
  clear h
  by_cases c4 : (wrap64 (a1 + (a2.size : Int))) ≤ (a0.size : Int)
  · rw [if_pos c4] at H
    have c4b0 : decide ((wrap64 (a1 + (a2.size : Int))) ≤ (a0.size : Int)) = true := decide_eq_true c4
    clear c4
    by_cases c5 : 0 ≤ a1
    · rw [if_pos c5] at H
      have c5b0 := eq_true c5
      have c5b1 : decide (0 ≤ a1) = true := decide_eq_true c5
      clear c5
      by_cases c6 : a1 ≤ (wrap64 (a1 + (a2.size : Int)))
      · rw [if_pos c6] at H
        have c6b0 := eq_true c6
        have c6b1 : decide (a1 ≤ (wrap64 (a1 + (a2.size : Int)))) = true := decide_eq_true c6
        have c7b0 := eq_true (of_decide_eq_true (by first | (with_reducible assumption) | assumption) : (wrap64 (a1 + (a2.size : Int))) ≤ (a0.size : Int))
        obtain rfl := Option.some.inj H
        go_enter Try.func39, Try.ntmps39
        go_wp2
        go_ret
        exact ⟨by first | rfl | (simp; done) | (simp [*]; done), by repeat (first | exact Drawn0.refl _ | apply Drawn0.step)⟩
      · rw [if_neg c6] at H
        exact absurd H (by simp)
    · rw [if_neg c5] at H
      exact absurd H (by simp)
  · rw [if_neg c4] at H
    have c4b0 : decide ((wrap64 (a1 + (a2.size : Int))) ≤ (a0.size : Int)) = false := decide_eq_false c4
    clear c4
    obtain rfl := Option.some.inj H
    go_enter Try.func39, Try.ntmps39
    go_wp2
    go_ret
    exact ⟨by first | rfl | (simp; done) | (simp [*]; done), by repeat (first | exact Drawn0.refl _ | apply Drawn0.step)⟩

/-! ### triforiumref14_pairs: function 49 -/
def triforiumref14_pairs.f  : Option (List ByteArray) := some (([(⟨#[61, 61, 62]⟩ : ByteArray), (⟨#[92, 60, 76, 111, 110, 103, 114, 105, 103, 104, 116, 97, 114, 114, 111, 119, 62]⟩ : ByteArray), (⟨#[45, 45, 62]⟩ : ByteArray), (⟨#[92, 60, 108, 111, 110, 103, 114, 105, 103, 104, 116, 97, 114, 114, 111, 119, 62]⟩ : ByteArray), (⟨#[61, 61]⟩ : ByteArray), (⟨#[92, 60, 101, 113, 117, 105, 118, 62]⟩ : ByteArray), (⟨#[61, 62]⟩ : ByteArray), (⟨#[92, 60, 82, 105, 103, 104, 116, 97, 114, 114, 111, 119, 62]⟩ : ByteArray), (⟨#[33, 33]⟩ : ByteArray), (⟨#[92, 60, 65, 110, 100, 62]⟩ : ByteArray), (⟨#[37]⟩ : ByteArray), (⟨#[92, 60, 108, 97, 109, 98, 100, 97, 62]⟩ : ByteArray), (⟨#[38]⟩ : ByteArray), (⟨#[92, 60, 97, 110, 100, 62]⟩ : ByteArray), (⟨#[124]⟩ : ByteArray), (⟨#[92, 60, 111, 114, 62]⟩ : ByteArray), (⟨#[126]⟩ : ByteArray), (⟨#[92, 60, 110, 111, 116, 62]⟩ : ByteArray), (⟨#[33]⟩ : ByteArray), (⟨#[92, 60, 102, 111, 114, 97, 108, 108, 62]⟩ : ByteArray)] : List ByteArray))
set_option maxHeartbeats 8000000 in
set_option maxRecDepth 100000 in
theorem triforiumref14_pairs.calls  (r : List ByteArray) (w : World) (h : triforiumref14_pairs.f  = some r) :
    Calls Try.prog 49 #[] w fun e w' => ∃ v0_ : Value, e = .returned (v0_) ∧ Kd.R Kd.string 9 w' w.heap.size (fun _ => True) v0_ r ∧ Below w.heap.size w w' := by
  have HB := Aside0.mk (Below.refl w.heap.size w)
  have H : (some (([(⟨#[61, 61, 62]⟩ : ByteArray), (⟨#[92, 60, 76, 111, 110, 103, 114, 105, 103, 104, 116, 97, 114, 114, 111, 119, 62]⟩ : ByteArray), (⟨#[45, 45, 62]⟩ : ByteArray), (⟨#[92, 60, 108, 111, 110, 103, 114, 105, 103, 104, 116, 97, 114, 114, 111, 119, 62]⟩ : ByteArray), (⟨#[61, 61]⟩ : ByteArray), (⟨#[92, 60, 101, 113, 117, 105, 118, 62]⟩ : ByteArray), (⟨#[61, 62]⟩ : ByteArray), (⟨#[92, 60, 82, 105, 103, 104, 116, 97, 114, 114, 111, 119, 62]⟩ : ByteArray), (⟨#[33, 33]⟩ : ByteArray), (⟨#[92, 60, 65, 110, 100, 62]⟩ : ByteArray), (⟨#[37]⟩ : ByteArray), (⟨#[92, 60, 108, 97, 109, 98, 100, 97, 62]⟩ : ByteArray), (⟨#[38]⟩ : ByteArray), (⟨#[92, 60, 97, 110, 100, 62]⟩ : ByteArray), (⟨#[124]⟩ : ByteArray), (⟨#[92, 60, 111, 114, 62]⟩ : ByteArray), (⟨#[126]⟩ : ByteArray), (⟨#[92, 60, 110, 111, 116, 62]⟩ : ByteArray), (⟨#[33]⟩ : ByteArray), (⟨#[92, 60, 102, 111, 114, 97, 108, 108, 62]⟩ : ByteArray)] : List ByteArray))) = some r := h
  clear h
  obtain ⟨y107, hy107⟩ : ∃ y_ : List ByteArray, y_ = (([(⟨#[61, 61, 62]⟩ : ByteArray), (⟨#[92, 60, 76, 111, 110, 103, 114, 105, 103, 104, 116, 97, 114, 114, 111, 119, 62]⟩ : ByteArray), (⟨#[45, 45, 62]⟩ : ByteArray), (⟨#[92, 60, 108, 111, 110, 103, 114, 105, 103, 104, 116, 97, 114, 114, 111, 119, 62]⟩ : ByteArray), (⟨#[61, 61]⟩ : ByteArray), (⟨#[92, 60, 101, 113, 117, 105, 118, 62]⟩ : ByteArray), (⟨#[61, 62]⟩ : ByteArray), (⟨#[92, 60, 82, 105, 103, 104, 116, 97, 114, 114, 111, 119, 62]⟩ : ByteArray), (⟨#[33, 33]⟩ : ByteArray), (⟨#[92, 60, 65, 110, 100, 62]⟩ : ByteArray), (⟨#[37]⟩ : ByteArray), (⟨#[92, 60, 108, 97, 109, 98, 100, 97, 62]⟩ : ByteArray), (⟨#[38]⟩ : ByteArray), (⟨#[92, 60, 97, 110, 100, 62]⟩ : ByteArray), (⟨#[124]⟩ : ByteArray), (⟨#[92, 60, 111, 114, 62]⟩ : ByteArray), (⟨#[126]⟩ : ByteArray), (⟨#[92, 60, 110, 111, 116, 62]⟩ : ByteArray), (⟨#[33]⟩ : ByteArray), (⟨#[92, 60, 102, 111, 114, 97, 108, 108, 62]⟩ : ByteArray)] : List ByteArray)) := ⟨_, rfl⟩
  replace H : (some y107) = some r := by first | (rw [hy107]; with_reducible exact H) | (have H2_ := (Option.bind_some _ _).symm.trans H; rw [hy107]; with_reducible exact H2_) | (have H2_ := (Option.bind_some _ _).symm.trans H; with_reducible exact H2_) | with_reducible exact H | (rw [hy107]; exact H) | exact H
  have Ny107 := Aside0.mk hy107
  clear hy107
  obtain rfl := Option.some.inj H
  go_enter Try.func49, Try.ntmps49
  go_wp2_with (first | ((with_reducible refine gate_dst (N := 1) rfl ?_); refine Kd.R_lit Kd.string _ 9 ?hg (N := 1) ?hd (xs := ([(⟨#[61, 61, 62]⟩ : ByteArray), (⟨#[92, 60, 76, 111, 110, 103, 114, 105, 103, 104, 116, 97, 114, 114, 111, 119, 62]⟩ : ByteArray), (⟨#[45, 45, 62]⟩ : ByteArray), (⟨#[92, 60, 108, 111, 110, 103, 114, 105, 103, 104, 116, 97, 114, 114, 111, 119, 62]⟩ : ByteArray), (⟨#[61, 61]⟩ : ByteArray), (⟨#[92, 60, 101, 113, 117, 105, 118, 62]⟩ : ByteArray), (⟨#[61, 62]⟩ : ByteArray), (⟨#[92, 60, 82, 105, 103, 104, 116, 97, 114, 114, 111, 119, 62]⟩ : ByteArray), (⟨#[33, 33]⟩ : ByteArray), (⟨#[92, 60, 65, 110, 100, 62]⟩ : ByteArray), (⟨#[37]⟩ : ByteArray), (⟨#[92, 60, 108, 97, 109, 98, 100, 97, 62]⟩ : ByteArray), (⟨#[38]⟩ : ByteArray), (⟨#[92, 60, 97, 110, 100, 62]⟩ : ByteArray), (⟨#[124]⟩ : ByteArray), (⟨#[92, 60, 111, 114, 62]⟩ : ByteArray), (⟨#[126]⟩ : ByteArray), (⟨#[92, 60, 110, 111, 116, 62]⟩ : ByteArray), (⟨#[33]⟩ : ByteArray), (⟨#[92, 60, 102, 111, 114, 97, 108, 108, 62]⟩ : ByteArray)] : List ByteArray)) (inner := [.string (⟨#[61, 61, 62]⟩ : ByteArray), .string (⟨#[92, 60, 76, 111, 110, 103, 114, 105, 103, 104, 116, 97, 114, 114, 111, 119, 62]⟩ : ByteArray), .string (⟨#[45, 45, 62]⟩ : ByteArray), .string (⟨#[92, 60, 108, 111, 110, 103, 114, 105, 103, 104, 116, 97, 114, 114, 111, 119, 62]⟩ : ByteArray), .string (⟨#[61, 61]⟩ : ByteArray), .string (⟨#[92, 60, 101, 113, 117, 105, 118, 62]⟩ : ByteArray), .string (⟨#[61, 62]⟩ : ByteArray), .string (⟨#[92, 60, 82, 105, 103, 104, 116, 97, 114, 114, 111, 119, 62]⟩ : ByteArray), .string (⟨#[33, 33]⟩ : ByteArray), .string (⟨#[92, 60, 65, 110, 100, 62]⟩ : ByteArray), .string (⟨#[37]⟩ : ByteArray), .string (⟨#[92, 60, 108, 97, 109, 98, 100, 97, 62]⟩ : ByteArray), .string (⟨#[38]⟩ : ByteArray), .string (⟨#[92, 60, 97, 110, 100, 62]⟩ : ByteArray), .string (⟨#[124]⟩ : ByteArray), .string (⟨#[92, 60, 111, 114, 62]⟩ : ByteArray), .string (⟨#[126]⟩ : ByteArray), .string (⟨#[92, 60, 110, 111, 116, 62]⟩ : ByteArray), .string (⟨#[33]⟩ : ByteArray), .string (⟨#[92, 60, 102, 111, 114, 97, 108, 108, 62]⟩ : ByteArray)]) (ok := fun _ => True) (okp := fun _ => True) ?hr ?hp (fun _ hk => hk) trivial (Below.refl _ _) (Nat.le_refl _) (by simp) ?_; (case hd => rfl); (case hg => rfl); (case hr => first | (go_simp; done) | (go_simp; rfl)); (case hp => exact (Reps.one (show Kd.M Kd.string _ _ _ (⟨#[61, 61, 62]⟩ : ByteArray) [.string (⟨#[61, 61, 62]⟩ : ByteArray)] from rfl) (Reps.one (show Kd.M Kd.string _ _ _ (⟨#[92, 60, 76, 111, 110, 103, 114, 105, 103, 104, 116, 97, 114, 114, 111, 119, 62]⟩ : ByteArray) [.string (⟨#[92, 60, 76, 111, 110, 103, 114, 105, 103, 104, 116, 97, 114, 114, 111, 119, 62]⟩ : ByteArray)] from rfl) (Reps.one (show Kd.M Kd.string _ _ _ (⟨#[45, 45, 62]⟩ : ByteArray) [.string (⟨#[45, 45, 62]⟩ : ByteArray)] from rfl) (Reps.one (show Kd.M Kd.string _ _ _ (⟨#[92, 60, 108, 111, 110, 103, 114, 105, 103, 104, 116, 97, 114, 114, 111, 119, 62]⟩ : ByteArray) [.string (⟨#[92, 60, 108, 111, 110, 103, 114, 105, 103, 104, 116, 97, 114, 114, 111, 119, 62]⟩ : ByteArray)] from rfl) (Reps.one (show Kd.M Kd.string _ _ _ (⟨#[61, 61]⟩ : ByteArray) [.string (⟨#[61, 61]⟩ : ByteArray)] from rfl) (Reps.one (show Kd.M Kd.string _ _ _ (⟨#[92, 60, 101, 113, 117, 105, 118, 62]⟩ : ByteArray) [.string (⟨#[92, 60, 101, 113, 117, 105, 118, 62]⟩ : ByteArray)] from rfl) (Reps.one (show Kd.M Kd.string _ _ _ (⟨#[61, 62]⟩ : ByteArray) [.string (⟨#[61, 62]⟩ : ByteArray)] from rfl) (Reps.one (show Kd.M Kd.string _ _ _ (⟨#[92, 60, 82, 105, 103, 104, 116, 97, 114, 114, 111, 119, 62]⟩ : ByteArray) [.string (⟨#[92, 60, 82, 105, 103, 104, 116, 97, 114, 114, 111, 119, 62]⟩ : ByteArray)] from rfl) (Reps.one (show Kd.M Kd.string _ _ _ (⟨#[33, 33]⟩ : ByteArray) [.string (⟨#[33, 33]⟩ : ByteArray)] from rfl) (Reps.one (show Kd.M Kd.string _ _ _ (⟨#[92, 60, 65, 110, 100, 62]⟩ : ByteArray) [.string (⟨#[92, 60, 65, 110, 100, 62]⟩ : ByteArray)] from rfl) (Reps.one (show Kd.M Kd.string _ _ _ (⟨#[37]⟩ : ByteArray) [.string (⟨#[37]⟩ : ByteArray)] from rfl) (Reps.one (show Kd.M Kd.string _ _ _ (⟨#[92, 60, 108, 97, 109, 98, 100, 97, 62]⟩ : ByteArray) [.string (⟨#[92, 60, 108, 97, 109, 98, 100, 97, 62]⟩ : ByteArray)] from rfl) (Reps.one (show Kd.M Kd.string _ _ _ (⟨#[38]⟩ : ByteArray) [.string (⟨#[38]⟩ : ByteArray)] from rfl) (Reps.one (show Kd.M Kd.string _ _ _ (⟨#[92, 60, 97, 110, 100, 62]⟩ : ByteArray) [.string (⟨#[92, 60, 97, 110, 100, 62]⟩ : ByteArray)] from rfl) (Reps.one (show Kd.M Kd.string _ _ _ (⟨#[124]⟩ : ByteArray) [.string (⟨#[124]⟩ : ByteArray)] from rfl) (Reps.one (show Kd.M Kd.string _ _ _ (⟨#[92, 60, 111, 114, 62]⟩ : ByteArray) [.string (⟨#[92, 60, 111, 114, 62]⟩ : ByteArray)] from rfl) (Reps.one (show Kd.M Kd.string _ _ _ (⟨#[126]⟩ : ByteArray) [.string (⟨#[126]⟩ : ByteArray)] from rfl) (Reps.one (show Kd.M Kd.string _ _ _ (⟨#[92, 60, 110, 111, 116, 62]⟩ : ByteArray) [.string (⟨#[92, 60, 110, 111, 116, 62]⟩ : ByteArray)] from rfl) (Reps.one (show Kd.M Kd.string _ _ _ (⟨#[33]⟩ : ByteArray) [.string (⟨#[33]⟩ : ByteArray)] from rfl) (Reps.one (show Kd.M Kd.string _ _ _ (⟨#[92, 60, 102, 111, 114, 97, 108, 108, 62]⟩ : ByteArray) [.string (⟨#[92, 60, 102, 111, 114, 97, 108, 108, 62]⟩ : ByteArray)] from rfl) (Reps.none _ _)))))))))))))))))))))); intro v108 w1 ho2 hb hg_ hnew_; clear hg_ hnew_; (first | rw [← Ny107.out] at ho2 | (simp only [Int.reduceToNat] at ho2; rw [← Ny107.out] at ho2)); have n0_ := Aside0.mk (Kd.R_lower ho2 (below_size (by repeat (first | (with_reducible first | exact HB.out | apply below_alloc | apply pw_below_drewN | apply below_drew1) | exact HB.out)))); have n1_ := Aside0.mk (below_step (by repeat (first | (with_reducible first | exact HB.out | apply below_alloc | apply pw_below_drewN | apply below_drew1) | exact HB.out)) hb); clear HB; have HO109 := n0_; have HB := n1_; clear n0_ n1_; clear hb ho2))
  go_ret
  exact ⟨_, by first | rfl | (simp [errW_none, errW_some] <;> rfl) | (simp [*, errW_none, errW_some] <;> rfl), by (with_reducible repeat (first | apply Kd.R_alloc | apply Kd.R_drewN | apply Kd.R_drew)); exact HO109.out, by repeat (first | (with_reducible first | exact HB.out | apply below_alloc | apply pw_below_drewN | apply below_drew1) | exact HB.out)⟩

/-! ### triforiumref14_replaced: function 29 -/
mutual
def triforiumref14_replaced.l0 : Nat → ByteArray → Int → Int → List ByteArray → ByteArray → Int → Option (ByteArray)
  | 0, _, _, _, _, _, _ => none
  | k + 1, x0, x1, x2, x7, x8, x9 => if x9 < (x0.size : Int) then (triforiumref14_replaced.l1 k x0 x1 x2 x7 x8 x9 0) else (some x8)
def triforiumref14_replaced.l1 : Nat → ByteArray → Int → Int → List ByteArray → ByteArray → Int → Int → Option (ByteArray)
  | 0, _, _, _, _, _, _, _ => none
  | k + 1, x0, x1, x2, x7, x8, x9, x10 => if x10 < (x7.length : Int) then (if 0 ≤ (wrap64 (x10 + x1)) then (if (wrap64 (x10 + x1)) < (x7.length : Int) then ((triforiumref14_starts.f x0 x9 (rdOf ByteArray.empty x7 (wrap64 (x10 + x1)))).bind fun t114 => (if t114 = true then (if 0 ≤ (wrap64 (x10 + x2)) then (if (wrap64 (x10 + x2)) < (x7.length : Int) then (if x8.size + (rdOf ByteArray.empty x7 (wrap64 (x10 + x2))).size ≤ 9223372036854775807 then (triforiumref14_replaced.l0 k x0 x1 x2 x7 (x8 ++ (rdOf ByteArray.empty x7 (wrap64 (x10 + x2)))) (wrap64 (x9 + ((rdOf ByteArray.empty x7 (wrap64 (x10 + x1))).size : Int)))) else (none)) else (none)) else (none)) else (triforiumref14_replaced.l1 k x0 x1 x2 x7 x8 x9 (wrap64 (x10 + 2))))) else (none)) else (none)) else (if 0 ≤ x9 then (if x9 ≤ (wrap64 (x9 + 1)) then (if (wrap64 (x9 + 1)) ≤ (x0.size : Int) then (if x8.size + (x0.extract (x9 : Int).toNat ((wrap64 (x9 + 1)) : Int).toNat).size ≤ 9223372036854775807 then (triforiumref14_replaced.l0 k x0 x1 x2 x7 (x8 ++ (x0.extract (x9 : Int).toNat ((wrap64 (x9 + 1)) : Int).toNat)) (wrap64 (x9 + 1))) else (none)) else (none)) else (none)) else (none))
end
def triforiumref14_replaced.f (k : Nat) (a0 : ByteArray) (a1 : Int) (a2 : Int) : Option (ByteArray) := (triforiumref14_pairs.f).bind fun t110 => (triforiumref14_replaced.l0 k a0 a1 a2 t110 (⟨#[]⟩ : ByteArray) 0)
theorem triforiumref14_replaced.mono_l : ∀ k, (∀ y0 y1 y2 y3 y4 y5, LeO (triforiumref14_replaced.l0 k y0 y1 y2 y3 y4 y5) (triforiumref14_replaced.l0 (k + 1) y0 y1 y2 y3 y4 y5)) ∧ (∀ y0 y1 y2 y3 y4 y5 y6, LeO (triforiumref14_replaced.l1 k y0 y1 y2 y3 y4 y5 y6) (triforiumref14_replaced.l1 (k + 1) y0 y1 y2 y3 y4 y5 y6))
  | 0 => ⟨fun _ _ _ _ _ _ r h => by simp [triforiumref14_replaced.l0] at h, fun _ _ _ _ _ _ _ r h => by simp [triforiumref14_replaced.l1] at h⟩
  | k + 1 => by
    obtain ⟨ih0, ih1⟩ := triforiumref14_replaced.mono_l k
    refine ⟨?_, ?_⟩
    · intro y0 y1 y2 y3 y4 y5
      unfold triforiumref14_replaced.l0
      repeat' first
      | (with_reducible exact ih0 _ _ _ _ _ _)
      | (with_reducible exact ih1 _ _ _ _ _ _ _)
      | (with_reducible exact LeO.refl _)
      | (with_reducible exact LeO.none _)
      | (with_reducible refine LeO.ite ?_ ?_)
      | (with_reducible refine LeO.bind ?_ (fun _ => ?_))
      | exact ih0 _ _ _ _ _ _
      | exact ih1 _ _ _ _ _ _ _
      | exact LeO.none _
      | refine LeO.ite ?_ ?_
      | refine LeO.bind ?_ (fun _ => ?_)
    · intro y0 y1 y2 y3 y4 y5 y6
      unfold triforiumref14_replaced.l1
      repeat' first
      | (with_reducible exact ih0 _ _ _ _ _ _)
      | (with_reducible exact ih1 _ _ _ _ _ _ _)
      | (with_reducible exact LeO.refl _)
      | (with_reducible exact LeO.none _)
      | (with_reducible refine LeO.ite ?_ ?_)
      | (with_reducible refine LeO.bind ?_ (fun _ => ?_))
      | exact ih0 _ _ _ _ _ _
      | exact ih1 _ _ _ _ _ _ _
      | exact LeO.none _
      | refine LeO.ite ?_ ?_
      | refine LeO.bind ?_ (fun _ => ?_)
theorem triforiumref14_replaced.mono : ∀ a0 a1 a2 k, LeO (triforiumref14_replaced.f k a0 a1 a2) (triforiumref14_replaced.f (k + 1) a0 a1 a2) := by
  intro a0 a1 a2 k
  obtain ⟨ih0, ih1⟩ := triforiumref14_replaced.mono_l k
  unfold triforiumref14_replaced.f
  repeat' first
      | (with_reducible exact ih0 _ _ _ _ _ _)
      | (with_reducible exact ih1 _ _ _ _ _ _ _)
      | (with_reducible exact LeO.refl _)
      | (with_reducible exact LeO.none _)
      | (with_reducible refine LeO.ite ?_ ?_)
      | (with_reducible refine LeO.bind ?_ (fun _ => ?_))
      | exact ih0 _ _ _ _ _ _
      | exact ih1 _ _ _ _ _ _ _
      | exact LeO.none _
      | refine LeO.ite ?_ ?_
      | refine LeO.bind ?_ (fun _ => ?_)
set_option maxHeartbeats 8000000 in
set_option maxRecDepth 100000 in
theorem triforiumref14_replaced.calls (k : Nat) (a0 : ByteArray) (a1 : Int) (a2 : Int) (r : ByteArray) (w : World) (h : triforiumref14_replaced.f k a0 a1 a2 = some r) :
    Calls Try.prog 29 #[.string a0, .int .i64 a1, .int .i64 a2] w fun e w' => e = .returned (.string r) ∧ Below w.heap.size w w' := by
  have HB := Aside0.mk (Below.refl w.heap.size w)
  have H : ((triforiumref14_pairs.f).bind fun t110 => (triforiumref14_replaced.l0 k a0 a1 a2 t110 (⟨#[]⟩ : ByteArray) 0)) = some r := h
  clear h
  replace H := Option.bind_eq_some_iff.mp H
  obtain ⟨t110, A40, H⟩ := H
  replace H : (triforiumref14_replaced.l0 k a0 a1 a2 t110 (⟨#[]⟩ : ByteArray) 0) = some r := H
  have A4 := Aside0.mk A40
  clear A40
  have H' := Aside0.mk H
  clear H
  go_enter Try.func29, Try.ntmps29
  go_wp2_with (first | ((with_reducible refine gate_callee (f := 49) rfl ?_); refine goesL_ (some 11) rfl rfl Try.func49 (by kernel_rfl) rfl #[] rfl (by (try simp only [List.map_toArray, List.map_cons, List.map_nil]); first | done | rfl | (simp only [List.length_drop, List.length_take]; rfl)) ?_; (with_reducible refine (triforiumref14_pairs.calls  t110 _ A4.out).mono ?_); rintro e w5 ⟨v111, rfl, ho0, hb⟩; refine ⟨_, rfl, ?_⟩; have n0_ := Aside0.mk (Kd.R_lower ho0 (below_size (by repeat (first | (with_reducible first | exact HB.out | apply below_alloc | apply pw_below_drewN | apply below_drew1) | exact HB.out)))); have n1_ := Aside0.mk (below_step (by repeat (first | (with_reducible first | exact HB.out | apply below_alloc | apply pw_below_drewN | apply below_drew1) | exact HB.out)) hb); clear HB; have HO112 := n0_; have HB := n1_; clear n0_ n1_; (try clear hb); (try clear hb2); (try clear hk); (try clear hi); (try clear ho0)))
  go_loopg [8, 9] k (fun kq v8 v9 w' => ∃ (x8_1 : ByteArray) (x9_1 : Int), v8 = .string x8_1 ∧ v9 = .int .i64 x9_1 ∧ Aside0 (triforiumref14_replaced.l0 kq a0 a1 a2 t110 x8_1 x9_1 = some r) ∧ Aside0 (kq ≤ k) ∧ Aside0 (Kd.R Kd.string 9 w' w.heap.size (fun _ => True) v111 t110) ∧ Aside0 (Below w.heap.size w w'))
  case atStart => exact ⟨((⟨#[]⟩ : ByteArray)), (0), (by first | rfl | (simp; done) | (simp [*]; done)), (by first | rfl | (simp; done) | (simp [*]; done)), H', ⟨Nat.le_refl _⟩, ⟨by (with_reducible repeat (first | apply Kd.R_alloc | apply Kd.R_drewN | apply Kd.R_drew)); exact HO112.out⟩, ⟨by repeat (first | (with_reducible first | exact HB.out | apply below_alloc | apply pw_below_drewN | apply below_drew1) | exact HB.out)⟩⟩
  case round =>
    clear H'
    try clear c2
    try clear p2
    try clear c4
    obtain ⟨x8_1, x9_1, rfl, rfl, HA, HK1, HO_7, HB⟩ := hrel
    cases gk with
    | zero => exact absurd HA.out (by simp [triforiumref14_replaced.l0])
    | succ k1 =>
      have H := HA.out
      clear HA
      simp only [triforiumref14_replaced.l0] at H
      by_cases c6 : x9_1 < (a0.size : Int)
      · rw [if_pos c6] at H
        have c6b0 : decide (x9_1 < (a0.size : Int)) = true := decide_eq_true c6
        clear c6
        have H' := Aside0.mk H
        clear H
        go_wp2
        go_loopg [10] k1 (fun kq v10 w' => ∃ (x10_2 : Int), v10 = .int .i64 x10_2 ∧ Aside0 (triforiumref14_replaced.l1 kq a0 a1 a2 t110 x8_1 x9_1 x10_2 = some r) ∧ Aside0 (kq ≤ k1) ∧ Aside0 (Kd.R Kd.string 9 w' w.heap.size (fun _ => True) v111 t110) ∧ Aside0 (Below w.heap.size w w'))
        case atStart => exact ⟨(0), (by first | rfl | (simp; done) | (simp [*]; done)), H', ⟨Nat.le_refl _⟩, ⟨by (with_reducible repeat (first | apply Kd.R_alloc | apply Kd.R_drewN | apply Kd.R_drew)); exact HO_7.out⟩, ⟨by repeat (first | (with_reducible first | exact HB.out | apply below_alloc | apply pw_below_drewN | apply below_drew1) | exact HB.out)⟩⟩
        case round =>
          clear H'
          try clear c2
          try clear p2
          try clear c4
          try clear c6
          try clear c6b0
          try clear p2
          obtain ⟨x10_2, rfl, HA, HK2, HO_7, HB⟩ := hrel
          cases gk with
          | zero => exact absurd HA.out (by simp [triforiumref14_replaced.l1])
          | succ k2 =>
            have H := HA.out
            clear HA
            simp only [triforiumref14_replaced.l1] at H
            by_cases c7 : x10_2 < (t110.length : Int)
            · rw [if_pos c7] at H
              have c7b0 : decide (x10_2 < (t110.length : Int)) = true := decide_eq_true c7
              clear c7
              obtain ⟨ji8, hji8⟩ : ∃ j_ : Int, (wrap64 (x10_2 + a1)) = j_ := ⟨_, rfl⟩
              replace H : (if 0 ≤ (ji8) then (if (ji8) < (t110.length : Int) then ((triforiumref14_starts.f a0 x9_1 (rdOf ByteArray.empty t110 (ji8))).bind fun t114 => (if t114 = true then (if 0 ≤ (wrap64 (x10_2 + a2)) then (if (wrap64 (x10_2 + a2)) < (t110.length : Int) then (if x8_1.size + (rdOf ByteArray.empty t110 (wrap64 (x10_2 + a2))).size ≤ 9223372036854775807 then (triforiumref14_replaced.l0 k2 a0 a1 a2 t110 (x8_1 ++ (rdOf ByteArray.empty t110 (wrap64 (x10_2 + a2)))) (wrap64 (x9_1 + ((rdOf ByteArray.empty t110 (ji8)).size : Int)))) else (none)) else (none)) else (none)) else (triforiumref14_replaced.l1 k2 a0 a1 a2 t110 x8_1 x9_1 (wrap64 (x10_2 + 2))))) else (none)) else (none)) = some r := by first | (rw [hji8] at H; exact H) | (simp only [hji8] at H ⊢; exact H)
              have hji8w : (IntKind.i64.wrap (x10_2 + a1)) = ji8 := (i64_w _).trans hji8
              by_cases c9 : 0 ≤ (ji8)
              · rw [if_pos c9] at H
                have c9b0 : decide (0 ≤ (ji8)) = true := decide_eq_true c9
                clear c9
                by_cases c10 : (ji8) < (t110.length : Int)
                · rw [if_pos c10] at H
                  have c10b0 : decide ((ji8) < (t110.length : Int)) = true := decide_eq_true c10
                  clear c10
                  replace H := Option.bind_eq_some_iff.mp H
                  obtain ⟨t114, A110, H⟩ := H
                  replace H : (if t114 = true then (if 0 ≤ (wrap64 (x10_2 + a2)) then (if (wrap64 (x10_2 + a2)) < (t110.length : Int) then (if x8_1.size + (rdOf ByteArray.empty t110 (wrap64 (x10_2 + a2))).size ≤ 9223372036854775807 then (triforiumref14_replaced.l0 k2 a0 a1 a2 t110 (x8_1 ++ (rdOf ByteArray.empty t110 (wrap64 (x10_2 + a2)))) (wrap64 (x9_1 + ((rdOf ByteArray.empty t110 (ji8)).size : Int)))) else (none)) else (none)) else (none)) else (triforiumref14_replaced.l1 k2 a0 a1 a2 t110 x8_1 x9_1 (wrap64 (x10_2 + 2)))) = some r := H
                  have A11 := Aside0.mk A110
                  clear A110
                  by_cases c12 : t114 = true
                  · subst c12
                    have H1 : (if 0 ≤ (wrap64 (x10_2 + a2)) then (if (wrap64 (x10_2 + a2)) < (t110.length : Int) then (if x8_1.size + (rdOf ByteArray.empty t110 (wrap64 (x10_2 + a2))).size ≤ 9223372036854775807 then (triforiumref14_replaced.l0 k2 a0 a1 a2 t110 (x8_1 ++ (rdOf ByteArray.empty t110 (wrap64 (x10_2 + a2)))) (wrap64 (x9_1 + ((rdOf ByteArray.empty t110 (ji8)).size : Int)))) else (none)) else (none)) else (none)) = some r := by rw [if_pos rfl] at H; exact H
                    clear H
                    have H := H1
                    clear H1
                    obtain ⟨ji13, hji13⟩ : ∃ j_ : Int, (wrap64 (x10_2 + a2)) = j_ := ⟨_, rfl⟩
                    replace H : (if 0 ≤ (ji13) then (if (ji13) < (t110.length : Int) then (if x8_1.size + (rdOf ByteArray.empty t110 (ji13)).size ≤ 9223372036854775807 then (triforiumref14_replaced.l0 k2 a0 a1 a2 t110 (x8_1 ++ (rdOf ByteArray.empty t110 (ji13))) (wrap64 (x9_1 + ((rdOf ByteArray.empty t110 (ji8)).size : Int)))) else (none)) else (none)) else (none)) = some r := by first | (rw [hji13] at H; exact H) | (simp only [hji13] at H ⊢; exact H)
                    (try rw [hji13] at A11)
                    have hji13w : (IntKind.i64.wrap (x10_2 + a2)) = ji13 := (i64_w _).trans hji13
                    by_cases c14 : 0 ≤ (ji13)
                    · rw [if_pos c14] at H
                      have c14b0 : decide (0 ≤ (ji13)) = true := decide_eq_true c14
                      clear c14
                      by_cases c15 : (ji13) < (t110.length : Int)
                      · rw [if_pos c15] at H
                        have c15b0 : decide ((ji13) < (t110.length : Int)) = true := decide_eq_true c15
                        clear c15
                        by_cases c16 : x8_1.size + (rdOf ByteArray.empty t110 (ji13)).size ≤ 9223372036854775807
                        · rw [if_pos c16] at H
                          have c16b0 := eq_true c16
                          have c16b1 : decide (x8_1.size + (rdOf ByteArray.empty t110 (ji13)).size ≤ 9223372036854775807) = true := decide_eq_true c16
                          try have c16b2 : (9223372036854775807 < x8_1.size + (rdOf ByteArray.empty t110 (ji13)).size) = False := eq_false (Nat.not_lt.2 c16)
                          have H' := Aside0.mk H
                          clear H
                          obtain ⟨Ao17, co17, eo17⟩ := Kd.R_slice HO_7.out
                          subst eo17
                          have p113 : 0 ≤ ((ji8) : Int) := of_decide_eq_true (by first | (with_reducible assumption) | assumption)
                          have q113 : (ji8) < (t110.length : Int) := of_decide_eq_true (by first | (with_reducible assumption) | assumption)
                          obtain ⟨ad113, e113, hx113_0⟩ := Kd.at_string (Kd.R_reads' HO_7.out).2.2 (ji8) p113 q113
                          cases e113
                          replace p113 := eq_true p113
                          replace q113 := eq_true q113
                          go_wp2_with (first | (go_at_call 39; (with_reducible refine (triforiumref14_starts.calls a0 x9_1 (rdOf ByteArray.empty t110 (ji8)) true _ A11.out).mono ?_); rintro e w' ⟨rfl, ⟨nd, rfl⟩⟩; have p115 : 0 ≤ ((ji13) : Int) := of_decide_eq_true (by first | (with_reducible assumption) | assumption); have q115 : (ji13) < (t110.length : Int) := of_decide_eq_true (by first | (with_reducible assumption) | assumption); obtain ⟨ad115, e115, hx115_0⟩ := Kd.at_string (Kd.R_reads' HO_7.out).2.2 (ji13) p115 q115; obtain rfl : ad113 = ad115 := (by injection e115); replace p115 := eq_true p115; replace q115 := eq_true q115; have p116 : 0 ≤ ((ji8) : Int) := of_decide_eq_true (by first | (with_reducible assumption) | assumption); have q116 : (ji8) < (t110.length : Int) := of_decide_eq_true (by first | (with_reducible assumption) | assumption); obtain ⟨ad116, e116, hx116_0⟩ := Kd.at_string (Kd.R_reads' HO_7.out).2.2 (ji8) p116 q116; obtain rfl : ad113 = ad116 := (by injection e116); replace p116 := eq_true p116; replace q116 := eq_true q116))
                          go_roundg k2
                          case measure => have := HK1.out; have := HK2.out; omega
                          case rel => exact ⟨(x8_1 ++ (rdOf ByteArray.empty t110 (ji13))), (wrap64 (x9_1 + ((rdOf ByteArray.empty t110 (ji8)).size : Int))), (by first | rfl | (simp; done) | (simp only [← hji13] <;> (first | rfl | simp)) | (simp [*]; done)), (by first | rfl | (simp; done) | (simp only [← hji8] <;> (first | rfl | simp)) | (simp [*]; done)), H', ⟨by have := HK1.out; have := HK2.out; omega⟩, ⟨by (with_reducible repeat (first | apply Kd.R_alloc | apply Kd.R_drewN | apply Kd.R_drew)); exact HO_7.out⟩, ⟨by repeat (first | (with_reducible first | exact HB.out | apply below_alloc | apply pw_below_drewN | apply below_drew1) | exact HB.out)⟩⟩
                        · rw [if_neg c16] at H
                          exact absurd H (by simp)
                      · rw [if_neg c15] at H
                        exact absurd H (by simp)
                    · rw [if_neg c14] at H
                      exact absurd H (by simp)
                  · replace c12 := Bool.eq_false_iff.mpr c12
                    subst c12
                    have H1 : (triforiumref14_replaced.l1 k2 a0 a1 a2 t110 x8_1 x9_1 (wrap64 (x10_2 + 2))) = some r := by rw [if_neg (show ¬ (false = true) by decide)] at H; exact H
                    clear H
                    have H := H1
                    clear H1
                    have H' := Aside0.mk H
                    clear H
                    obtain ⟨Ao18, co18, eo18⟩ := Kd.R_slice HO_7.out
                    subst eo18
                    have p113 : 0 ≤ ((ji8) : Int) := of_decide_eq_true (by first | (with_reducible assumption) | assumption)
                    have q113 : (ji8) < (t110.length : Int) := of_decide_eq_true (by first | (with_reducible assumption) | assumption)
                    obtain ⟨ad113, e113, hx113_0⟩ := Kd.at_string (Kd.R_reads' HO_7.out).2.2 (ji8) p113 q113
                    cases e113
                    replace p113 := eq_true p113
                    replace q113 := eq_true q113
                    go_wp2_with (first | (go_at_call 39; (with_reducible refine (triforiumref14_starts.calls a0 x9_1 (rdOf ByteArray.empty t110 (ji8)) false _ A11.out).mono ?_); rintro e w' ⟨rfl, ⟨nd, rfl⟩⟩))
                    go_roundg k2
                    case measure => have := HK1.out; have := HK2.out; omega
                    case rel => exact ⟨(wrap64 (x10_2 + 2)), (by first | rfl | (simp; done) | (simp [*]; done)), H', ⟨by have := HK1.out; have := HK2.out; omega⟩, ⟨by (with_reducible repeat (first | apply Kd.R_alloc | apply Kd.R_drewN | apply Kd.R_drew)); exact HO_7.out⟩, ⟨by repeat (first | (with_reducible first | exact HB.out | apply below_alloc | apply pw_below_drewN | apply below_drew1) | exact HB.out)⟩⟩
                · rw [if_neg c10] at H
                  exact absurd H (by simp)
              · rw [if_neg c9] at H
                exact absurd H (by simp)
            · rw [if_neg c7] at H
              have c7b0 : decide (x10_2 < (t110.length : Int)) = false := decide_eq_false c7
              clear c7
              by_cases c19 : 0 ≤ x9_1
              · rw [if_pos c19] at H
                have c19b0 := eq_true c19
                have c19b1 : decide (0 ≤ x9_1) = true := decide_eq_true c19
                clear c19
                by_cases c20 : x9_1 ≤ (wrap64 (x9_1 + 1))
                · rw [if_pos c20] at H
                  have c20b0 := eq_true c20
                  have c20b1 : decide (x9_1 ≤ (wrap64 (x9_1 + 1))) = true := decide_eq_true c20
                  by_cases c21 : (wrap64 (x9_1 + 1)) ≤ (a0.size : Int)
                  · rw [if_pos c21] at H
                    have c21b0 := eq_true c21
                    have c21b1 : decide ((wrap64 (x9_1 + 1)) ≤ (a0.size : Int)) = true := decide_eq_true c21
                    by_cases c22 : x8_1.size + (a0.extract (x9_1 : Int).toNat ((wrap64 (x9_1 + 1)) : Int).toNat).size ≤ 9223372036854775807
                    · rw [if_pos c22] at H
                      have c22b0 := eq_true c22
                      have c22b1 : decide (x8_1.size + (a0.extract (x9_1 : Int).toNat ((wrap64 (x9_1 + 1)) : Int).toNat).size ≤ 9223372036854775807) = true := decide_eq_true c22
                      try have c22b2 : (9223372036854775807 < x8_1.size + (a0.extract (x9_1 : Int).toNat ((wrap64 (x9_1 + 1)) : Int).toNat).size) = False := eq_false (Nat.not_lt.2 c22)
                      have H' := Aside0.mk H
                      clear H
                      obtain ⟨Ao23, co23, eo23⟩ := Kd.R_slice HO_7.out
                      subst eo23
                      go_wp2
                      go_roundg k2
                      case measure => have := HK1.out; have := HK2.out; omega
                      case rel => exact ⟨(x8_1 ++ (a0.extract (x9_1 : Int).toNat ((wrap64 (x9_1 + 1)) : Int).toNat)), (wrap64 (x9_1 + 1)), (by first | rfl | (simp; done) | (simp [*]; done)), (by first | rfl | (simp; done) | (simp [*]; done)), H', ⟨by have := HK1.out; have := HK2.out; omega⟩, ⟨by (with_reducible repeat (first | apply Kd.R_alloc | apply Kd.R_drewN | apply Kd.R_drew)); exact HO_7.out⟩, ⟨by repeat (first | (with_reducible first | exact HB.out | apply below_alloc | apply pw_below_drewN | apply below_drew1) | exact HB.out)⟩⟩
                    · rw [if_neg c22] at H
                      exact absurd H (by simp)
                  · rw [if_neg c21] at H
                    exact absurd H (by simp)
                · rw [if_neg c20] at H
                  exact absurd H (by simp)
              · rw [if_neg c19] at H
                exact absurd H (by simp)
      · rw [if_neg c6] at H
        have c6b0 : decide (x9_1 < (a0.size : Int)) = false := decide_eq_false c6
        clear c6
        obtain rfl := Option.some.inj H
        go_wp2
        go_ret
        exact ⟨by first | rfl | (simp [errW_none, errW_some] <;> rfl) | (simp [*, errW_none, errW_some] <;> rfl), by repeat (first | (with_reducible first | exact HB.out | apply below_alloc | apply pw_below_drewN | apply below_drew1) | exact HB.out)⟩

/-! ### triforiumref14_Symbols: function 16 -/
def triforiumref14_Symbols.f (k : Nat) (a0 : ByteArray) : Option (ByteArray) := (triforiumref14_replaced.f k a0 0 1).bind fun t117 => (some t117)
theorem triforiumref14_Symbols.mono : ∀ a0 k, LeO (triforiumref14_Symbols.f k a0) (triforiumref14_Symbols.f (k + 1) a0) := by
  intro a0 k
  unfold triforiumref14_Symbols.f
  repeat' first
      | (with_reducible exact triforiumref14_replaced.mono _ _ _ _)
      | (with_reducible exact LeO.refl _)
      | (with_reducible exact LeO.none _)
      | (with_reducible refine LeO.ite ?_ ?_)
      | (with_reducible refine LeO.bind ?_ (fun _ => ?_))
      | exact triforiumref14_replaced.mono _ _ _ _
      | exact LeO.none _
      | refine LeO.ite ?_ ?_
      | refine LeO.bind ?_ (fun _ => ?_)
set_option maxHeartbeats 8000000 in
set_option maxRecDepth 100000 in
theorem triforiumref14_Symbols.calls (k : Nat) (a0 : ByteArray) (r : ByteArray) (w : World) (h : triforiumref14_Symbols.f k a0 = some r) :
    Calls Try.prog 16 #[.string a0] w fun e w' => e = .returned (.string r) ∧ Below w.heap.size w w' := by
  have HB := Aside0.mk (Below.refl w.heap.size w)
  have H : ((triforiumref14_replaced.f k a0 0 1).bind fun t117 => (some t117)) = some r := h
  clear h
  replace H := Option.bind_eq_some_iff.mp H
  obtain ⟨t117, A20, H⟩ := H
  replace H : (some t117) = some r := H
  have A2 := Aside0.mk A20
  clear A20
  obtain rfl := Option.some.inj H
  go_enter Try.func16, Try.ntmps16
  go_wp2_with (first | ((with_reducible refine gate_callee (f := 29) rfl ?_); refine goesL_ (some 4) rfl rfl Try.func29 (by kernel_rfl) rfl #[.string a0, .int .i64 0, .int .i64 1] rfl (by (try simp only [List.map_toArray, List.map_cons, List.map_nil]); first | done | rfl | (simp only [List.length_drop, List.length_take]; rfl)) ?_; (with_reducible refine (triforiumref14_replaced.calls k a0 0 1 t117 _ A2.out).mono ?_); rintro e w3 ⟨rfl, hb⟩; refine ⟨_, rfl, ?_⟩; have n0_ := Aside0.mk (below_step (by repeat (first | (with_reducible first | exact HB.out | apply below_alloc | apply pw_below_drewN | apply below_drew1) | exact HB.out)) hb); clear HB; have HB := n0_; clear n0_; (try clear hb); (try clear hb2); (try clear hk); (try clear hi)))
  go_ret
  exact ⟨by first | rfl | (simp [errW_none, errW_some] <;> rfl) | (simp [*, errW_none, errW_some] <;> rfl), by repeat (first | (with_reducible first | exact HB.out | apply below_alloc | apply pw_below_drewN | apply below_drew1) | exact HB.out)⟩

-- NOT PRINTED: function 17 (token_Plain)

/-! ### triforiumref14_Plain: function 18 -/
def triforiumref14_Plain.f (k : Nat) (a0 : ByteArray) : Option (ByteArray) := (triforiumref14_replaced.f k a0 1 0).bind fun t118 => (some t118)
theorem triforiumref14_Plain.mono : ∀ a0 k, LeO (triforiumref14_Plain.f k a0) (triforiumref14_Plain.f (k + 1) a0) := by
  intro a0 k
  unfold triforiumref14_Plain.f
  repeat' first
      | (with_reducible exact triforiumref14_replaced.mono _ _ _ _)
      | (with_reducible exact LeO.refl _)
      | (with_reducible exact LeO.none _)
      | (with_reducible refine LeO.ite ?_ ?_)
      | (with_reducible refine LeO.bind ?_ (fun _ => ?_))
      | exact triforiumref14_replaced.mono _ _ _ _
      | exact LeO.none _
      | refine LeO.ite ?_ ?_
      | refine LeO.bind ?_ (fun _ => ?_)
set_option maxHeartbeats 8000000 in
set_option maxRecDepth 100000 in
theorem triforiumref14_Plain.calls (k : Nat) (a0 : ByteArray) (r : ByteArray) (w : World) (h : triforiumref14_Plain.f k a0 = some r) :
    Calls Try.prog 18 #[.string a0] w fun e w' => e = .returned (.string r) ∧ Below w.heap.size w w' := by
  have HB := Aside0.mk (Below.refl w.heap.size w)
  have H : ((triforiumref14_replaced.f k a0 1 0).bind fun t118 => (some t118)) = some r := h
  clear h
  replace H := Option.bind_eq_some_iff.mp H
  obtain ⟨t118, A20, H⟩ := H
  replace H : (some t118) = some r := H
  have A2 := Aside0.mk A20
  clear A20
  obtain rfl := Option.some.inj H
  go_enter Try.func18, Try.ntmps18
  go_wp2_with (first | ((with_reducible refine gate_callee (f := 29) rfl ?_); refine goesL_ (some 4) rfl rfl Try.func29 (by kernel_rfl) rfl #[.string a0, .int .i64 1, .int .i64 0] rfl (by (try simp only [List.map_toArray, List.map_cons, List.map_nil]); first | done | rfl | (simp only [List.length_drop, List.length_take]; rfl)) ?_; (with_reducible refine (triforiumref14_replaced.calls k a0 1 0 t118 _ A2.out).mono ?_); rintro e w3 ⟨rfl, hb⟩; refine ⟨_, rfl, ?_⟩; have n0_ := Aside0.mk (below_step (by repeat (first | (with_reducible first | exact HB.out | apply below_alloc | apply pw_below_drewN | apply below_drew1) | exact HB.out)) hb); clear HB; have HB := n0_; clear n0_; (try clear hb); (try clear hb2); (try clear hk); (try clear hi)))
  go_ret
  exact ⟨by first | rfl | (simp [errW_none, errW_some] <;> rfl) | (simp [*, errW_none, errW_some] <;> rfl), by repeat (first | (with_reducible first | exact HB.out | apply below_alloc | apply pw_below_drewN | apply below_drew1) | exact HB.out)⟩

-- NOT PRINTED: function 5 (triforiumlaw14_TokenSymbols)

end Go.Proofs.Ytmkfeanggmjhmaa.PTokenSymbols
