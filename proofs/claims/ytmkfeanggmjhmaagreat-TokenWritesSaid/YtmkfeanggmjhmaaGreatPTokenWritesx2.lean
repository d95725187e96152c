-- PRINTED BY print.sh 35421559b90ae4d0a3588c463048766b98c2df88dd9212a6774a882060cdf62d: not written by this session
import Derived.Test.YtmkfeanggmjhmaaGreatPTokenWritesx0
import Derived.Test.YtmkfeanggmjhmaaGreatPTokenWritesx1
namespace Go.Proofs.YtmkfeanggmjhmaaGreat.PTokenWrites
open Go.RowKit Go.Proofs.YtmkfeanggmjhmaaGreatW.PrintWords Go.Proofs.YtmkfeanggmjhmaaGreatW.PrintLast Go.Proofs.YtmkfeanggmjhmaaGreatW.PrintMore
attribute [local go_sem] max2_int min2_int max_two min_two max_three min_three max_four min_four   -- for this text's walks alone
set_option linter.unusedVariables false
set_option linter.unusedSimpArgs false

/-! ### triforiumref14_starts: function 55 -/
def triforiumref14_starts.f (a0 : ByteArray) (a1 : Int) (a2 : ByteArray) : Option (Bool) := if (wrap64 (a1 + (a2.size : Int))) ≤ (a0.size : Int) then (if 0 ≤ a1 then (if a1 ≤ (wrap64 (a1 + (a2.size : Int))) then (some ((a0.extract (a1 : Int).toNat ((wrap64 (a1 + (a2.size : Int))) : Int).toNat).toList == a2.toList)) else (none)) else (none)) else (some false)
set_option maxHeartbeats 8000000 in
set_option maxRecDepth 100000 in
theorem triforiumref14_starts.calls (a0 : ByteArray) (a1 : Int) (a2 : ByteArray) (r : Bool) (w : World) (h : triforiumref14_starts.f a0 a1 a2 = some r) :
    Calls Tryz.prog 55 #[.string a0, .int .i64 a1, .string a2] w fun e w' => e = .returned (.bool r) ∧ Drawn0 w w' := by
  have H : (if (wrap64 (a1 + (a2.size : Int))) ≤ (a0.size : Int) then (if 0 ≤ a1 then (if a1 ≤ (wrap64 (a1 + (a2.size : Int))) then (some ((a0.extract (a1 : Int).toNat ((wrap64 (a1 + (a2.size : Int))) : Int).toNat).toList == a2.toList)) else (none)) else (none)) else (some false)) = some r := h
  clear h
  by_cases c4 : (wrap64 (a1 + (a2.size : Int))) ≤ (a0.size : Int)
  · rw [if_pos c4] at H
    have c4b0 : decide ((wrap64 (a1 + (a2.size : Int))) ≤ (a0.size : Int)) = true := decide_eq_true c4
    clear c4
    by_cases c5 : 0 ≤ a1
    · rw [if_pos c5] at H
      have c5b0 := eq_true c5
      have c5b1 : decide (0 ≤ a1) = true := decide_eq_true c5
      clear c5
      by_cases c6 : a1 ≤ (wrap64 (a1 + (a2.size : Int)))
      · rw [if_pos c6] at H
        have c6b0 := eq_true c6
        have c6b1 : decide (a1 ≤ (wrap64 (a1 + (a2.size : Int)))) = true := decide_eq_true c6
        have c7b0 := eq_true (of_decide_eq_true (by first | (with_reducible assumption) | assumption) : (wrap64 (a1 + (a2.size : Int))) ≤ (a0.size : Int))
        obtain rfl := Option.some.inj H
        go_enter Tryz.func55, Tryz.ntmps55
        go_wp2
        go_ret
        exact ⟨by first | rfl | (simp; done) | (simp [*]; done), by repeat (first | exact Drawn0.refl _ | apply Drawn0.step)⟩
      · rw [if_neg c6] at H
        exact absurd H (by simp)
    · rw [if_neg c5] at H
      exact absurd H (by simp)
  · rw [if_neg c4] at H
    have c4b0 : decide ((wrap64 (a1 + (a2.size : Int))) ≤ (a0.size : Int)) = false := decide_eq_false c4
    clear c4
    obtain rfl := Option.some.inj H
    go_enter Tryz.func55, Tryz.ntmps55
    go_wp2
    go_ret
    exact ⟨by first | rfl | (simp; done) | (simp [*]; done), by repeat (first | exact Drawn0.refl _ | apply Drawn0.step)⟩

/-! ### triforiumref14_named: function 54 -/
def triforiumref14_named.f (k : Nat) (a0 : ByteArray) (a1 : Int) : Option (Int) := (triforiumref14_starts.f a0 a1 (⟨#[92, 60]⟩ : ByteArray)).bind fun t112 => (if t112 = true then ((triforiumref14_ident.f k a0 (wrap64 (a1 + 2))).bind fun t113 => (if t113 = (wrap64 (a1 + 2)) then (some a1) else (if t113 = (a0.size : Int) then (some a1) else (if 0 ≤ t113 then (if t113 < (a0.size : Int) then (if (bt a0 t113) = 62 then (some (wrap64 (t113 + 1))) else (some a1)) else (none)) else (none))))) else (some a1))
theorem triforiumref14_named.mono : ∀ a0 a1 k, LeO (triforiumref14_named.f k a0 a1) (triforiumref14_named.f (k + 1) a0 a1) := by
  intro a0 a1 k
  unfold triforiumref14_named.f
  repeat' first
      | (with_reducible exact triforiumref14_ident.mono _ _ _)
      | (with_reducible exact LeO.refl _)
      | (with_reducible exact LeO.none _)
      | (with_reducible refine LeO.ite ?_ ?_)
      | (with_reducible refine LeO.bind ?_ (fun _ => ?_))
      | exact triforiumref14_ident.mono _ _ _
      | exact LeO.none _
      | refine LeO.ite ?_ ?_
      | refine LeO.bind ?_ (fun _ => ?_)
set_option maxHeartbeats 8000000 in
set_option maxRecDepth 100000 in
theorem triforiumref14_named.calls (k : Nat) (a0 : ByteArray) (a1 : Int) (r : Int) (w : World) (h : triforiumref14_named.f k a0 a1 = some r) :
    Calls Tryz.prog 54 #[.string a0, .int .i64 a1] w fun e w' => e = .returned (.int .i64 r) ∧ Drawn0 w w' := by
  have H : ((triforiumref14_starts.f a0 a1 (⟨#[92, 60]⟩ : ByteArray)).bind fun t112 => (if t112 = true then ((triforiumref14_ident.f k a0 (wrap64 (a1 + 2))).bind fun t113 => (if t113 = (wrap64 (a1 + 2)) then (some a1) else (if t113 = (a0.size : Int) then (some a1) else (if 0 ≤ t113 then (if t113 < (a0.size : Int) then (if (bt a0 t113) = 62 then (some (wrap64 (t113 + 1))) else (some a1)) else (none)) else (none))))) else (some a1))) = some r := h
  clear h
  replace H := Option.bind_eq_some_iff.mp H
  obtain ⟨t112, A30, H⟩ := H
  replace H : (if t112 = true then ((triforiumref14_ident.f k a0 (wrap64 (a1 + 2))).bind fun t113 => (if t113 = (wrap64 (a1 + 2)) then (some a1) else (if t113 = (a0.size : Int) then (some a1) else (if 0 ≤ t113 then (if t113 < (a0.size : Int) then (if (bt a0 t113) = 62 then (some (wrap64 (t113 + 1))) else (some a1)) else (none)) else (none))))) else (some a1)) = some r := H
  have A3 := Aside0.mk A30
  clear A30
  by_cases c4 : t112 = true
  · subst c4
    have H1 : ((triforiumref14_ident.f k a0 (wrap64 (a1 + 2))).bind fun t113 => (if t113 = (wrap64 (a1 + 2)) then (some a1) else (if t113 = (a0.size : Int) then (some a1) else (if 0 ≤ t113 then (if t113 < (a0.size : Int) then (if (bt a0 t113) = 62 then (some (wrap64 (t113 + 1))) else (some a1)) else (none)) else (none))))) = some r := by rw [if_pos rfl] at H; exact H
    clear H
    have H := H1
    clear H1
    replace H := Option.bind_eq_some_iff.mp H
    obtain ⟨t113, A50, H⟩ := H
    replace H : (if t113 = (wrap64 (a1 + 2)) then (some a1) else (if t113 = (a0.size : Int) then (some a1) else (if 0 ≤ t113 then (if t113 < (a0.size : Int) then (if (bt a0 t113) = 62 then (some (wrap64 (t113 + 1))) else (some a1)) else (none)) else (none)))) = some r := H
    have A5 := Aside0.mk A50
    clear A50
    by_cases c6 : t113 = (wrap64 (a1 + 2))
    · rw [if_pos c6] at H
      have c6b0 : (t113 == (wrap64 (a1 + 2))) = true := beq_iff_eq.mpr c6
      have c6b1 : (t113 != (wrap64 (a1 + 2))) = false := bne_eq_false_iff_eq.mpr c6
      clear c6
      obtain rfl := Option.some.inj H
      go_enter Tryz.func54, Tryz.ntmps54
      go_wp2_with (first | ((with_reducible refine gate_callee (f := 55) rfl ?_); refine goesL_ (some 8) rfl rfl Tryz.func55 (by kernel_rfl) rfl #[.string a0, .int .i64 a1, .string (⟨#[92, 60]⟩ : ByteArray)] rfl (by (try simp only [List.map_toArray, List.map_cons, List.map_nil]); first | done | rfl | (simp only [List.length_drop, List.length_take]; rfl)) ?_; (with_reducible refine (triforiumref14_starts.calls a0 a1 (⟨#[92, 60]⟩ : ByteArray) true _ A3.out).mono ?_); rintro e w' ⟨rfl, ⟨nd, rfl⟩⟩; refine ⟨_, rfl, ?_⟩) | ((with_reducible refine gate_callee (f := 51) rfl ?_); refine goesL_ (some 14) rfl rfl Tryz.func51 (by kernel_rfl) rfl #[.string a0, .int .i64 (wrap64 (a1 + 2))] rfl (by (try simp only [List.map_toArray, List.map_cons, List.map_nil]); first | done | rfl | (simp only [List.length_drop, List.length_take]; rfl)) ?_; (with_reducible refine (triforiumref14_ident.calls k a0 (wrap64 (a1 + 2)) t113 _ A5.out).mono ?_); rintro e w' ⟨rfl, ⟨nd, rfl⟩⟩; refine ⟨_, rfl, ?_⟩))
      go_ret
      exact ⟨by first | rfl | (simp; done) | (simp [*]; done), by repeat (first | exact Drawn0.refl _ | apply Drawn0.step)⟩
    · rw [if_neg c6] at H
      have c6b0 : (t113 == (wrap64 (a1 + 2))) = false := beq_eq_false_iff_ne.mpr c6
      have c6b1 : (t113 != (wrap64 (a1 + 2))) = true := bne_iff_ne.mpr c6
      by_cases c7 : t113 = (a0.size : Int)
      · rw [if_pos c7] at H
        have c7b0 : (t113 == (a0.size : Int)) = true := beq_iff_eq.mpr c7
        have c7b1 : (t113 != (a0.size : Int)) = false := bne_eq_false_iff_eq.mpr c7
        clear c7
        obtain rfl := Option.some.inj H
        go_enter Tryz.func54, Tryz.ntmps54
        go_wp2_with (first | ((with_reducible refine gate_callee (f := 55) rfl ?_); refine goesL_ (some 8) rfl rfl Tryz.func55 (by kernel_rfl) rfl #[.string a0, .int .i64 a1, .string (⟨#[92, 60]⟩ : ByteArray)] rfl (by (try simp only [List.map_toArray, List.map_cons, List.map_nil]); first | done | rfl | (simp only [List.length_drop, List.length_take]; rfl)) ?_; (with_reducible refine (triforiumref14_starts.calls a0 a1 (⟨#[92, 60]⟩ : ByteArray) true _ A3.out).mono ?_); rintro e w' ⟨rfl, ⟨nd, rfl⟩⟩; refine ⟨_, rfl, ?_⟩) | ((with_reducible refine gate_callee (f := 51) rfl ?_); refine goesL_ (some 14) rfl rfl Tryz.func51 (by kernel_rfl) rfl #[.string a0, .int .i64 (wrap64 (a1 + 2))] rfl (by (try simp only [List.map_toArray, List.map_cons, List.map_nil]); first | done | rfl | (simp only [List.length_drop, List.length_take]; rfl)) ?_; (with_reducible refine (triforiumref14_ident.calls k a0 (wrap64 (a1 + 2)) t113 _ A5.out).mono ?_); rintro e w' ⟨rfl, ⟨nd, rfl⟩⟩; refine ⟨_, rfl, ?_⟩))
        go_ret
        exact ⟨by first | rfl | (simp; done) | (simp [*]; done), by repeat (first | exact Drawn0.refl _ | apply Drawn0.step)⟩
      · rw [if_neg c7] at H
        have c7b0 : (t113 == (a0.size : Int)) = false := beq_eq_false_iff_ne.mpr c7
        have c7b1 : (t113 != (a0.size : Int)) = true := bne_iff_ne.mpr c7
        by_cases c8 : 0 ≤ t113
        · rw [if_pos c8] at H
          have c8b0 : decide (0 ≤ t113) = true := decide_eq_true c8
          clear c8
          by_cases c9 : t113 < (a0.size : Int)
          · rw [if_pos c9] at H
            have c9b0 : decide (t113 < (a0.size : Int)) = true := decide_eq_true c9
            clear c9
            by_cases c11 : (bt a0 t113) = 62
            · rw [if_pos c11] at H
              have c11b0 : ((bt a0 t113) == 62) = true := beq_iff_eq.mpr c11
              have c11b1 : ((bt a0 t113) != 62) = false := bne_eq_false_iff_eq.mpr c11
              clear c11
              obtain rfl := Option.some.inj H
              go_enter Tryz.func54, Tryz.ntmps54
              go_wp2_with (first | ((with_reducible refine gate_callee (f := 55) rfl ?_); refine goesL_ (some 8) rfl rfl Tryz.func55 (by kernel_rfl) rfl #[.string a0, .int .i64 a1, .string (⟨#[92, 60]⟩ : ByteArray)] rfl (by (try simp only [List.map_toArray, List.map_cons, List.map_nil]); first | done | rfl | (simp only [List.length_drop, List.length_take]; rfl)) ?_; (with_reducible refine (triforiumref14_starts.calls a0 a1 (⟨#[92, 60]⟩ : ByteArray) true _ A3.out).mono ?_); rintro e w' ⟨rfl, ⟨nd, rfl⟩⟩; refine ⟨_, rfl, ?_⟩) | ((with_reducible refine gate_callee (f := 51) rfl ?_); refine goesL_ (some 14) rfl rfl Tryz.func51 (by kernel_rfl) rfl #[.string a0, .int .i64 (wrap64 (a1 + 2))] rfl (by (try simp only [List.map_toArray, List.map_cons, List.map_nil]); first | done | rfl | (simp only [List.length_drop, List.length_take]; rfl)) ?_; (with_reducible refine (triforiumref14_ident.calls k a0 (wrap64 (a1 + 2)) t113 _ A5.out).mono ?_); rintro e w' ⟨rfl, ⟨nd, rfl⟩⟩; refine ⟨_, rfl, ?_⟩; have p10 : 0 ≤ (t113 : Int) := of_decide_eq_true (by first | (with_reducible assumption) | assumption); have q10 : t113 < (a0.size : Int) := of_decide_eq_true (by first | (with_reducible assumption) | assumption); have hx10 := bt_at a0 t113; replace p10 := eq_true p10; replace q10 := eq_true q10))
              go_ret
              exact ⟨by first | rfl | (simp; done) | (simp [*]; done), by repeat (first | exact Drawn0.refl _ | apply Drawn0.step)⟩
            · rw [if_neg c11] at H
              have c11b0 : ((bt a0 t113) == 62) = false := beq_eq_false_iff_ne.mpr c11
              have c11b1 : ((bt a0 t113) != 62) = true := bne_iff_ne.mpr c11
              obtain rfl := Option.some.inj H
              go_enter Tryz.func54, Tryz.ntmps54
              go_wp2_with (first | ((with_reducible refine gate_callee (f := 55) rfl ?_); refine goesL_ (some 8) rfl rfl Tryz.func55 (by kernel_rfl) rfl #[.string a0, .int .i64 a1, .string (⟨#[92, 60]⟩ : ByteArray)] rfl (by (try simp only [List.map_toArray, List.map_cons, List.map_nil]); first | done | rfl | (simp only [List.length_drop, List.length_take]; rfl)) ?_; (with_reducible refine (triforiumref14_starts.calls a0 a1 (⟨#[92, 60]⟩ : ByteArray) true _ A3.out).mono ?_); rintro e w' ⟨rfl, ⟨nd, rfl⟩⟩; refine ⟨_, rfl, ?_⟩) | ((with_reducible refine gate_callee (f := 51) rfl ?_); refine goesL_ (some 14) rfl rfl Tryz.func51 (by kernel_rfl) rfl #[.string a0, .int .i64 (wrap64 (a1 + 2))] rfl (by (try simp only [List.map_toArray, List.map_cons, List.map_nil]); first | done | rfl | (simp only [List.length_drop, List.length_take]; rfl)) ?_; (with_reducible refine (triforiumref14_ident.calls k a0 (wrap64 (a1 + 2)) t113 _ A5.out).mono ?_); rintro e w' ⟨rfl, ⟨nd, rfl⟩⟩; refine ⟨_, rfl, ?_⟩; have p10 : 0 ≤ (t113 : Int) := of_decide_eq_true (by first | (with_reducible assumption) | assumption); have q10 : t113 < (a0.size : Int) := of_decide_eq_true (by first | (with_reducible assumption) | assumption); have hx10 := bt_at a0 t113; replace p10 := eq_true p10; replace q10 := eq_true q10))
              go_ret
              exact ⟨by first | rfl | (simp; done) | (simp [*]; done), by repeat (first | exact Drawn0.refl _ | apply Drawn0.step)⟩
          · rw [if_neg c9] at H
            exact absurd H (by simp)
        · rw [if_neg c8] at H
          exact absurd H (by simp)
  · replace c4 := Bool.eq_false_iff.mpr c4
    subst c4
    have H1 : (some a1) = some r := by rw [if_neg (show ¬ (false = true) by decide)] at H; exact H
    clear H
    have H := H1
    clear H1
    obtain rfl := Option.some.inj H
    go_enter Tryz.func54, Tryz.ntmps54
    go_wp2_with (first | ((with_reducible refine gate_callee (f := 55) rfl ?_); refine goesL_ (some 8) rfl rfl Tryz.func55 (by kernel_rfl) rfl #[.string a0, .int .i64 a1, .string (⟨#[92, 60]⟩ : ByteArray)] rfl (by (try simp only [List.map_toArray, List.map_cons, List.map_nil]); first | done | rfl | (simp only [List.length_drop, List.length_take]; rfl)) ?_; (with_reducible refine (triforiumref14_starts.calls a0 a1 (⟨#[92, 60]⟩ : ByteArray) false _ A3.out).mono ?_); rintro e w' ⟨rfl, ⟨nd, rfl⟩⟩; refine ⟨_, rfl, ?_⟩))
    go_ret
    exact ⟨by first | rfl | (simp; done) | (simp [*]; done), by repeat (first | exact Drawn0.refl _ | apply Drawn0.step)⟩

/-! ### triforiumref14_isKeyword: function 39 -/
def triforiumref14_isKeyword.j0 : Nat → ByteArray → Bool → Option (Bool)
  | 0, _, _ => none
  | k + 1, x0, x10 => if x10 = true then (some false) else ((triforiumref14_ident.f k x0 0).bind fun t114 => (if t114 = (x0.size : Int) then (some true) else ((triforiumref14_run.f k x0 0 (⟨#[33, 35, 36, 37, 38, 42, 43, 45, 47, 58, 60, 61, 62, 64, 94, 124, 126]⟩ : ByteArray)).bind fun t115 => (if t115 = (x0.size : Int) then (some true) else (if (x0.size : Int) = 1 then (if 0 < (x0.size : Int) then ((triforiumref14_has.f k (⟨#[40, 41, 91, 93, 123, 125, 44, 59, 46]⟩ : ByteArray) (bt x0 0)).bind fun t116 => (if t116 = true then (some true) else ((triforiumref14_named.f k x0 0).bind fun t117 => (if t117 = (x0.size : Int) then (if x0.toList = ([92, 60, 111, 112, 101, 110, 62] : List UInt8) then (some false) else (some (x0.toList != ([92, 60, 99, 108, 111, 115, 101, 62] : List UInt8)))) else (some false))))) else (none)) else ((triforiumref14_named.f k x0 0).bind fun t118 => (if t118 = (x0.size : Int) then (if x0.toList = ([92, 60, 111, 112, 101, 110, 62] : List UInt8) then (some false) else (some (x0.toList != ([92, 60, 99, 108, 111, 115, 101, 62] : List UInt8)))) else (some false))))))))
def triforiumref14_isKeyword.f (k : Nat) (a0 : ByteArray) : Option (Bool) := if (a0.size : Int) = 0 then (triforiumref14_isKeyword.j0 k a0 true) else (triforiumref14_isKeyword.j0 k a0 (decide ((a0.size : Int) > 40)))
theorem triforiumref14_isKeyword.mono_l : ∀ k, (∀ y0 y1, LeO (triforiumref14_isKeyword.j0 k y0 y1) (triforiumref14_isKeyword.j0 (k + 1) y0 y1))
  | 0 => fun _ _ r h => by simp [triforiumref14_isKeyword.j0] at h
  | k + 1 => by
    have ih0 := triforiumref14_isKeyword.mono_l k
    · intro y0 y1
      unfold triforiumref14_isKeyword.j0
      repeat' first
      | (with_reducible exact ih0 _ _)
      | (with_reducible exact triforiumref14_has.mono _ _ _)
      | (with_reducible exact triforiumref14_ident.mono _ _ _)
      | (with_reducible exact triforiumref14_named.mono _ _ _)
      | (with_reducible exact triforiumref14_run.mono _ _ _ _)
      | (with_reducible exact LeO.refl _)
      | (with_reducible exact LeO.none _)
      | (with_reducible refine LeO.ite ?_ ?_)
      | (with_reducible refine LeO.bind ?_ (fun _ => ?_))
      | exact ih0 _ _
      | exact triforiumref14_has.mono _ _ _
      | exact triforiumref14_ident.mono _ _ _
      | exact triforiumref14_named.mono _ _ _
      | exact triforiumref14_run.mono _ _ _ _
      | exact LeO.none _
      | refine LeO.ite ?_ ?_
      | refine LeO.bind ?_ (fun _ => ?_)
theorem triforiumref14_isKeyword.mono : ∀ a0 k, LeO (triforiumref14_isKeyword.f k a0) (triforiumref14_isKeyword.f (k + 1) a0) := by
  intro a0 k
  have ih0 := triforiumref14_isKeyword.mono_l k
  unfold triforiumref14_isKeyword.f
  repeat' first
      | (with_reducible exact ih0 _ _)
      | (with_reducible exact triforiumref14_has.mono _ _ _)
      | (with_reducible exact triforiumref14_ident.mono _ _ _)
      | (with_reducible exact triforiumref14_named.mono _ _ _)
      | (with_reducible exact triforiumref14_run.mono _ _ _ _)
      | (with_reducible exact LeO.refl _)
      | (with_reducible exact LeO.none _)
      | (with_reducible refine LeO.ite ?_ ?_)
      | (with_reducible refine LeO.bind ?_ (fun _ => ?_))
      | exact ih0 _ _
      | exact triforiumref14_has.mono _ _ _
      | exact triforiumref14_ident.mono _ _ _
      | exact triforiumref14_named.mono _ _ _
      | exact triforiumref14_run.mono _ _ _ _
      | exact LeO.none _
      | refine LeO.ite ?_ ?_
      | refine LeO.bind ?_ (fun _ => ?_)
set_option maxHeartbeats 8000000 in
set_option maxRecDepth 100000 in
theorem triforiumref14_isKeyword.calls (k : Nat) (a0 : ByteArray) (r : Bool) (w : World) (h : triforiumref14_isKeyword.f k a0 = some r) :
    Calls Tryz.prog 39 #[.string a0] w fun e w' => e = .returned (.bool r) ∧ Drawn0 w w' := by
  have H : (if (a0.size : Int) = 0 then (triforiumref14_isKeyword.j0 k a0 true) else (triforiumref14_isKeyword.j0 k a0 (decide ((a0.size : Int) > 40)))) = some r := h
  clear h
  have HC2 := Aside0.mk H
  clear H
  go_enter Tryz.func39, Tryz.ntmps39
  go_upto_region 1 with (fail)
  go_cut [10] (fun v10 wc => ∃ (kq : Nat) (x10_1 : Bool), v10 = .bool x10_1 ∧ Aside0 (triforiumref14_isKeyword.j0 kq a0 x10_1 = some r) ∧ Aside0 (kq ≤ k) ∧ Drawn0 w wc)
  case first =>
    have H := HC2.out
    clear HC2
    by_cases c3 : (a0.size : Int) = 0
    · rw [if_pos c3] at H
      have c3b0 : ((a0.size : Int) == 0) = true := beq_iff_eq.mpr c3
      have c3b1 : ((a0.size : Int) != 0) = false := bne_eq_false_iff_eq.mpr c3
      clear c3
      (first | rw [c3b0] | (simp only [i64_w, i32_w]; rw [c3b0]) | skip)
      have H' := Aside0.mk H
      clear H
      go_wp2
      go_meet
      case rel => exact ⟨_, (true), (by first | rfl | (simp; done) | (simp [*]; done)), H', ⟨by first | omega | exact Nat.le_refl _⟩, by repeat (first | exact Drawn0.refl _ | apply Drawn0.step)⟩
    · rw [if_neg c3] at H
      have c3b0 : ((a0.size : Int) == 0) = false := beq_eq_false_iff_ne.mpr c3
      have c3b1 : ((a0.size : Int) != 0) = true := bne_iff_ne.mpr c3
      (first | rw [c3b0] | (simp only [i64_w, i32_w]; rw [c3b0]) | skip)
      have H' := Aside0.mk H
      clear H
      go_wp2
      go_meet
      case rel => exact ⟨_, (decide ((a0.size : Int) > 40)), (by first | rfl | (simp; done) | (simp [*]; done)), H', ⟨by first | omega | exact Nat.le_refl _⟩, by repeat (first | exact Drawn0.refl _ | apply Drawn0.step)⟩
  case rest =>
    clear HC2
    try clear p2
    try clear c3
    try clear c3b0
    try clear c3b1
    obtain ⟨kq, x10_1, rfl, HA, HJ1, ⟨mc1, rfl⟩⟩ := hcut
    cases kq with
    | zero => exact absurd HA.out (by simp [triforiumref14_isKeyword.j0])
    | succ kj1 =>
      have H := HA.out
      clear HA
      simp only [triforiumref14_isKeyword.j0] at H
      by_cases c4 : x10_1 = true
      · subst c4
        have H1 : (some false) = some r := by rw [if_pos rfl] at H; exact H
        clear H
        have H := H1
        clear H1
        obtain rfl := Option.some.inj H
        go_wp2
        go_ret
        exact ⟨by first | rfl | (simp; done) | (simp [*]; done), by repeat (first | exact Drawn0.refl _ | apply Drawn0.step)⟩
      · replace c4 := Bool.eq_false_iff.mpr c4
        subst c4
        have H1 : ((triforiumref14_ident.f kj1 a0 0).bind fun t114 => (if t114 = (a0.size : Int) then (some true) else ((triforiumref14_run.f kj1 a0 0 (⟨#[33, 35, 36, 37, 38, 42, 43, 45, 47, 58, 60, 61, 62, 64, 94, 124, 126]⟩ : ByteArray)).bind fun t115 => (if t115 = (a0.size : Int) then (some true) else (if (a0.size : Int) = 1 then (if 0 < (a0.size : Int) then ((triforiumref14_has.f kj1 (⟨#[40, 41, 91, 93, 123, 125, 44, 59, 46]⟩ : ByteArray) (bt a0 0)).bind fun t116 => (if t116 = true then (some true) else ((triforiumref14_named.f kj1 a0 0).bind fun t117 => (if t117 = (a0.size : Int) then (if a0.toList = ([92, 60, 111, 112, 101, 110, 62] : List UInt8) then (some false) else (some (a0.toList != ([92, 60, 99, 108, 111, 115, 101, 62] : List UInt8)))) else (some false))))) else (none)) else ((triforiumref14_named.f kj1 a0 0).bind fun t118 => (if t118 = (a0.size : Int) then (if a0.toList = ([92, 60, 111, 112, 101, 110, 62] : List UInt8) then (some false) else (some (a0.toList != ([92, 60, 99, 108, 111, 115, 101, 62] : List UInt8)))) else (some false)))))))) = some r := by rw [if_neg (show ¬ (false = true) by decide)] at H; exact H
        clear H
        have H := H1
        clear H1
        replace H := Option.bind_eq_some_iff.mp H
        obtain ⟨t114, A50, H⟩ := H
        replace H : (if t114 = (a0.size : Int) then (some true) else ((triforiumref14_run.f kj1 a0 0 (⟨#[33, 35, 36, 37, 38, 42, 43, 45, 47, 58, 60, 61, 62, 64, 94, 124, 126]⟩ : ByteArray)).bind fun t115 => (if t115 = (a0.size : Int) then (some true) else (if (a0.size : Int) = 1 then (if 0 < (a0.size : Int) then ((triforiumref14_has.f kj1 (⟨#[40, 41, 91, 93, 123, 125, 44, 59, 46]⟩ : ByteArray) (bt a0 0)).bind fun t116 => (if t116 = true then (some true) else ((triforiumref14_named.f kj1 a0 0).bind fun t117 => (if t117 = (a0.size : Int) then (if a0.toList = ([92, 60, 111, 112, 101, 110, 62] : List UInt8) then (some false) else (some (a0.toList != ([92, 60, 99, 108, 111, 115, 101, 62] : List UInt8)))) else (some false))))) else (none)) else ((triforiumref14_named.f kj1 a0 0).bind fun t118 => (if t118 = (a0.size : Int) then (if a0.toList = ([92, 60, 111, 112, 101, 110, 62] : List UInt8) then (some false) else (some (a0.toList != ([92, 60, 99, 108, 111, 115, 101, 62] : List UInt8)))) else (some false))))))) = some r := H
        have A5 := Aside0.mk A50
        clear A50
        by_cases c6 : t114 = (a0.size : Int)
        · rw [if_pos c6] at H
          have c6b0 : (t114 == (a0.size : Int)) = true := beq_iff_eq.mpr c6
          have c6b1 : (t114 != (a0.size : Int)) = false := bne_eq_false_iff_eq.mpr c6
          clear c6
          obtain rfl := Option.some.inj H
          go_wp2_with (first | ((with_reducible refine gate_callee (f := 51) rfl ?_); refine goesL_ (some 12) rfl rfl Tryz.func51 (by kernel_rfl) rfl #[.string a0, .int .i64 0] rfl (by (try simp only [List.map_toArray, List.map_cons, List.map_nil]); first | done | rfl | (simp only [List.length_drop, List.length_take]; rfl)) ?_; (with_reducible refine (triforiumref14_ident.calls kj1 a0 0 t114 _ A5.out).mono ?_); rintro e w' ⟨rfl, ⟨nd, rfl⟩⟩; refine ⟨_, rfl, ?_⟩))
          go_ret
          exact ⟨by first | rfl | (simp; done) | (simp [*]; done), by repeat (first | exact Drawn0.refl _ | apply Drawn0.step)⟩
        · rw [if_neg c6] at H
          have c6b0 : (t114 == (a0.size : Int)) = false := beq_eq_false_iff_ne.mpr c6
          have c6b1 : (t114 != (a0.size : Int)) = true := bne_iff_ne.mpr c6
          replace H := Option.bind_eq_some_iff.mp H
          obtain ⟨t115, A70, H⟩ := H
          replace H : (if t115 = (a0.size : Int) then (some true) else (if (a0.size : Int) = 1 then (if 0 < (a0.size : Int) then ((triforiumref14_has.f kj1 (⟨#[40, 41, 91, 93, 123, 125, 44, 59, 46]⟩ : ByteArray) (bt a0 0)).bind fun t116 => (if t116 = true then (some true) else ((triforiumref14_named.f kj1 a0 0).bind fun t117 => (if t117 = (a0.size : Int) then (if a0.toList = ([92, 60, 111, 112, 101, 110, 62] : List UInt8) then (some false) else (some (a0.toList != ([92, 60, 99, 108, 111, 115, 101, 62] : List UInt8)))) else (some false))))) else (none)) else ((triforiumref14_named.f kj1 a0 0).bind fun t118 => (if t118 = (a0.size : Int) then (if a0.toList = ([92, 60, 111, 112, 101, 110, 62] : List UInt8) then (some false) else (some (a0.toList != ([92, 60, 99, 108, 111, 115, 101, 62] : List UInt8)))) else (some false))))) = some r := H
          have A7 := Aside0.mk A70
          clear A70
          by_cases c8 : t115 = (a0.size : Int)
          · rw [if_pos c8] at H
            have c8b0 : (t115 == (a0.size : Int)) = true := beq_iff_eq.mpr c8
            have c8b1 : (t115 != (a0.size : Int)) = false := bne_eq_false_iff_eq.mpr c8
            clear c8
            obtain rfl := Option.some.inj H
            go_wp2_with (first | ((with_reducible refine gate_callee (f := 51) rfl ?_); refine goesL_ (some 12) rfl rfl Tryz.func51 (by kernel_rfl) rfl #[.string a0, .int .i64 0] rfl (by (try simp only [List.map_toArray, List.map_cons, List.map_nil]); first | done | rfl | (simp only [List.length_drop, List.length_take]; rfl)) ?_; (with_reducible refine (triforiumref14_ident.calls kj1 a0 0 t114 _ A5.out).mono ?_); rintro e w' ⟨rfl, ⟨nd, rfl⟩⟩; refine ⟨_, rfl, ?_⟩) | (go_at_call 52; (with_reducible refine (triforiumref14_run.calls kj1 a0 0 (⟨#[33, 35, 36, 37, 38, 42, 43, 45, 47, 58, 60, 61, 62, 64, 94, 124, 126]⟩ : ByteArray) t115 _ A7.out).mono ?_); rintro e w' ⟨rfl, ⟨nd, rfl⟩⟩))
            go_ret
            exact ⟨by first | rfl | (simp; done) | (simp [*]; done), by repeat (first | exact Drawn0.refl _ | apply Drawn0.step)⟩
          · rw [if_neg c8] at H
            have c8b0 : (t115 == (a0.size : Int)) = false := beq_eq_false_iff_ne.mpr c8
            have c8b1 : (t115 != (a0.size : Int)) = true := bne_iff_ne.mpr c8
            by_cases c9 : (a0.size : Int) = 1
            · rw [if_pos c9] at H
              have c9b0 : ((a0.size : Int) == 1) = true := beq_iff_eq.mpr c9
              have c9b1 : ((a0.size : Int) != 1) = false := bne_eq_false_iff_eq.mpr c9
              clear c9
              by_cases c10 : 0 < (a0.size : Int)
              · rw [if_pos c10] at H
                have c10b0 : decide (0 < (a0.size : Int)) = true := decide_eq_true c10
                have c10b1 : decide (0 < a0.size) = true := decide_eq_true (by omega)
                clear c10
                replace H := Option.bind_eq_some_iff.mp H
                obtain ⟨t116, A120, H⟩ := H
                replace H : (if t116 = true then (some true) else ((triforiumref14_named.f kj1 a0 0).bind fun t117 => (if t117 = (a0.size : Int) then (if a0.toList = ([92, 60, 111, 112, 101, 110, 62] : List UInt8) then (some false) else (some (a0.toList != ([92, 60, 99, 108, 111, 115, 101, 62] : List UInt8)))) else (some false)))) = some r := H
                have A12 := Aside0.mk A120
                clear A120
                by_cases c13 : t116 = true
                · subst c13
                  have H1 : (some true) = some r := by rw [if_pos rfl] at H; exact H
                  clear H
                  have H := H1
                  clear H1
                  obtain rfl := Option.some.inj H
                  go_wp2_with (first | ((with_reducible refine gate_callee (f := 51) rfl ?_); refine goesL_ (some 12) rfl rfl Tryz.func51 (by kernel_rfl) rfl #[.string a0, .int .i64 0] rfl (by (try simp only [List.map_toArray, List.map_cons, List.map_nil]); first | done | rfl | (simp only [List.length_drop, List.length_take]; rfl)) ?_; (with_reducible refine (triforiumref14_ident.calls kj1 a0 0 t114 _ A5.out).mono ?_); rintro e w' ⟨rfl, ⟨nd, rfl⟩⟩; refine ⟨_, rfl, ?_⟩) | (go_at_call 52; (with_reducible refine (triforiumref14_run.calls kj1 a0 0 (⟨#[33, 35, 36, 37, 38, 42, 43, 45, 47, 58, 60, 61, 62, 64, 94, 124, 126]⟩ : ByteArray) t115 _ A7.out).mono ?_); rintro e w' ⟨rfl, ⟨nd, rfl⟩⟩; have p11 : 0 ≤ (0 : Int) := (by omega); have q11 : 0 < a0.size := (by have : (0 : Int) < (a0.size : Int) := of_decide_eq_true (by first | (with_reducible assumption) | assumption); omega); have hx11 : ∀ h : 0 < a0.size, ((a0[0]'h).toNat : Int) = bt a0 0 := bt_at a0 0; clear p11; have qi11 : (0 < (a0.size : Int)) = True := eq_true (of_decide_eq_true (by first | (with_reducible assumption) | assumption)); replace q11 := eq_true q11) | (go_at_call 53; (with_reducible refine (triforiumref14_has.calls kj1 (⟨#[40, 41, 91, 93, 123, 125, 44, 59, 46]⟩ : ByteArray) (bt a0 0) true _ A12.out).mono ?_); rintro e w' ⟨rfl, ⟨nd, rfl⟩⟩))
                  go_ret
                  exact ⟨by first | rfl | (simp; done) | (simp [*]; done), by repeat (first | exact Drawn0.refl _ | apply Drawn0.step)⟩
                · replace c13 := Bool.eq_false_iff.mpr c13
                  subst c13
                  have H1 : ((triforiumref14_named.f kj1 a0 0).bind fun t117 => (if t117 = (a0.size : Int) then (if a0.toList = ([92, 60, 111, 112, 101, 110, 62] : List UInt8) then (some false) else (some (a0.toList != ([92, 60, 99, 108, 111, 115, 101, 62] : List UInt8)))) else (some false))) = some r := by rw [if_neg (show ¬ (false = true) by decide)] at H; exact H
                  clear H
                  have H := H1
                  clear H1
                  replace H := Option.bind_eq_some_iff.mp H
                  obtain ⟨t117, A140, H⟩ := H
                  replace H : (if t117 = (a0.size : Int) then (if a0.toList = ([92, 60, 111, 112, 101, 110, 62] : List UInt8) then (some false) else (some (a0.toList != ([92, 60, 99, 108, 111, 115, 101, 62] : List UInt8)))) else (some false)) = some r := H
                  have A14 := Aside0.mk A140
                  clear A140
                  by_cases c15 : t117 = (a0.size : Int)
                  · rw [if_pos c15] at H
                    have c15b0 : (t117 == (a0.size : Int)) = true := beq_iff_eq.mpr c15
                    have c15b1 : (t117 != (a0.size : Int)) = false := bne_eq_false_iff_eq.mpr c15
                    clear c15
                    by_cases c16 : a0.toList = ([92, 60, 111, 112, 101, 110, 62] : List UInt8)
                    · rw [if_pos c16] at H
                      have c16b0 : (a0.toList == ([92, 60, 111, 112, 101, 110, 62] : List UInt8)) = true := beq_iff_eq.mpr c16
                      have c16b1 : (a0.toList != ([92, 60, 111, 112, 101, 110, 62] : List UInt8)) = false := bne_eq_false_iff_eq.mpr c16
                      clear c16
                      obtain rfl := Option.some.inj H
                      go_wp2_with (first | ((with_reducible refine gate_callee (f := 51) rfl ?_); refine goesL_ (some 12) rfl rfl Tryz.func51 (by kernel_rfl) rfl #[.string a0, .int .i64 0] rfl (by (try simp only [List.map_toArray, List.map_cons, List.map_nil]); first | done | rfl | (simp only [List.length_drop, List.length_take]; rfl)) ?_; (with_reducible refine (triforiumref14_ident.calls kj1 a0 0 t114 _ A5.out).mono ?_); rintro e w' ⟨rfl, ⟨nd, rfl⟩⟩; refine ⟨_, rfl, ?_⟩) | (go_at_call 52; (with_reducible refine (triforiumref14_run.calls kj1 a0 0 (⟨#[33, 35, 36, 37, 38, 42, 43, 45, 47, 58, 60, 61, 62, 64, 94, 124, 126]⟩ : ByteArray) t115 _ A7.out).mono ?_); rintro e w' ⟨rfl, ⟨nd, rfl⟩⟩; have p11 : 0 ≤ (0 : Int) := (by omega); have q11 : 0 < a0.size := (by have : (0 : Int) < (a0.size : Int) := of_decide_eq_true (by first | (with_reducible assumption) | assumption); omega); have hx11 : ∀ h : 0 < a0.size, ((a0[0]'h).toNat : Int) = bt a0 0 := bt_at a0 0; clear p11; have qi11 : (0 < (a0.size : Int)) = True := eq_true (of_decide_eq_true (by first | (with_reducible assumption) | assumption)); replace q11 := eq_true q11) | (go_at_call 53; (with_reducible refine (triforiumref14_has.calls kj1 (⟨#[40, 41, 91, 93, 123, 125, 44, 59, 46]⟩ : ByteArray) (bt a0 0) false _ A12.out).mono ?_); rintro e w' ⟨rfl, ⟨nd, rfl⟩⟩) | ((with_reducible refine gate_callee (f := 54) rfl ?_); refine goesL_ (some 34) rfl rfl Tryz.func54 (by kernel_rfl) rfl #[.string a0, .int .i64 0] rfl (by (try simp only [List.map_toArray, List.map_cons, List.map_nil]); first | done | rfl | (simp only [List.length_drop, List.length_take]; rfl)) ?_; (with_reducible refine (triforiumref14_named.calls kj1 a0 0 t117 _ A14.out).mono ?_); rintro e w' ⟨rfl, ⟨nd, rfl⟩⟩; refine ⟨_, rfl, ?_⟩))
                      go_ret
                      exact ⟨by first | rfl | (simp; done) | (simp [*]; done), by repeat (first | exact Drawn0.refl _ | apply Drawn0.step)⟩
                    · rw [if_neg c16] at H
                      have c16b0 : (a0.toList == ([92, 60, 111, 112, 101, 110, 62] : List UInt8)) = false := beq_eq_false_iff_ne.mpr c16
                      have c16b1 : (a0.toList != ([92, 60, 111, 112, 101, 110, 62] : List UInt8)) = true := bne_iff_ne.mpr c16
                      obtain rfl := Option.some.inj H
                      go_wp2_with (first | ((with_reducible refine gate_callee (f := 51) rfl ?_); refine goesL_ (some 12) rfl rfl Tryz.func51 (by kernel_rfl) rfl #[.string a0, .int .i64 0] rfl (by (try simp only [List.map_toArray, List.map_cons, List.map_nil]); first | done | rfl | (simp only [List.length_drop, List.length_take]; rfl)) ?_; (with_reducible refine (triforiumref14_ident.calls kj1 a0 0 t114 _ A5.out).mono ?_); rintro e w' ⟨rfl, ⟨nd, rfl⟩⟩; refine ⟨_, rfl, ?_⟩) | (go_at_call 52; (with_reducible refine (triforiumref14_run.calls kj1 a0 0 (⟨#[33, 35, 36, 37, 38, 42, 43, 45, 47, 58, 60, 61, 62, 64, 94, 124, 126]⟩ : ByteArray) t115 _ A7.out).mono ?_); rintro e w' ⟨rfl, ⟨nd, rfl⟩⟩; have p11 : 0 ≤ (0 : Int) := (by omega); have q11 : 0 < a0.size := (by have : (0 : Int) < (a0.size : Int) := of_decide_eq_true (by first | (with_reducible assumption) | assumption); omega); have hx11 : ∀ h : 0 < a0.size, ((a0[0]'h).toNat : Int) = bt a0 0 := bt_at a0 0; clear p11; have qi11 : (0 < (a0.size : Int)) = True := eq_true (of_decide_eq_true (by first | (with_reducible assumption) | assumption)); replace q11 := eq_true q11) | (go_at_call 53; (with_reducible refine (triforiumref14_has.calls kj1 (⟨#[40, 41, 91, 93, 123, 125, 44, 59, 46]⟩ : ByteArray) (bt a0 0) false _ A12.out).mono ?_); rintro e w' ⟨rfl, ⟨nd, rfl⟩⟩) | ((with_reducible refine gate_callee (f := 54) rfl ?_); refine goesL_ (some 34) rfl rfl Tryz.func54 (by kernel_rfl) rfl #[.string a0, .int .i64 0] rfl (by (try simp only [List.map_toArray, List.map_cons, List.map_nil]); first | done | rfl | (simp only [List.length_drop, List.length_take]; rfl)) ?_; (with_reducible refine (triforiumref14_named.calls kj1 a0 0 t117 _ A14.out).mono ?_); rintro e w' ⟨rfl, ⟨nd, rfl⟩⟩; refine ⟨_, rfl, ?_⟩))
                      go_ret
                      exact ⟨by first | rfl | (simp; done) | (simp [*]; done), by repeat (first | exact Drawn0.refl _ | apply Drawn0.step)⟩
                  · rw [if_neg c15] at H
                    have c15b0 : (t117 == (a0.size : Int)) = false := beq_eq_false_iff_ne.mpr c15
                    have c15b1 : (t117 != (a0.size : Int)) = true := bne_iff_ne.mpr c15
                    obtain rfl := Option.some.inj H
                    go_wp2_with (first | ((with_reducible refine gate_callee (f := 51) rfl ?_); refine goesL_ (some 12) rfl rfl Tryz.func51 (by kernel_rfl) rfl #[.string a0, .int .i64 0] rfl (by (try simp only [List.map_toArray, List.map_cons, List.map_nil]); first | done | rfl | (simp only [List.length_drop, List.length_take]; rfl)) ?_; (with_reducible refine (triforiumref14_ident.calls kj1 a0 0 t114 _ A5.out).mono ?_); rintro e w' ⟨rfl, ⟨nd, rfl⟩⟩; refine ⟨_, rfl, ?_⟩) | (go_at_call 52; (with_reducible refine (triforiumref14_run.calls kj1 a0 0 (⟨#[33, 35, 36, 37, 38, 42, 43, 45, 47, 58, 60, 61, 62, 64, 94, 124, 126]⟩ : ByteArray) t115 _ A7.out).mono ?_); rintro e w' ⟨rfl, ⟨nd, rfl⟩⟩; have p11 : 0 ≤ (0 : Int) := (by omega); have q11 : 0 < a0.size := (by have : (0 : Int) < (a0.size : Int) := of_decide_eq_true (by first | (with_reducible assumption) | assumption); omega); have hx11 : ∀ h : 0 < a0.size, ((a0[0]'h).toNat : Int) = bt a0 0 := bt_at a0 0; clear p11; have qi11 : (0 < (a0.size : Int)) = True := eq_true (of_decide_eq_true (by first | (with_reducible assumption) | assumption)); replace q11 := eq_true q11) | (go_at_call 53; (with_reducible refine (triforiumref14_has.calls kj1 (⟨#[40, 41, 91, 93, 123, 125, 44, 59, 46]⟩ : ByteArray) (bt a0 0) false _ A12.out).mono ?_); rintro e w' ⟨rfl, ⟨nd, rfl⟩⟩) | ((with_reducible refine gate_callee (f := 54) rfl ?_); refine goesL_ (some 34) rfl rfl Tryz.func54 (by kernel_rfl) rfl #[.string a0, .int .i64 0] rfl (by (try simp only [List.map_toArray, List.map_cons, List.map_nil]); first | done | rfl | (simp only [List.length_drop, List.length_take]; rfl)) ?_; (with_reducible refine (triforiumref14_named.calls kj1 a0 0 t117 _ A14.out).mono ?_); rintro e w' ⟨rfl, ⟨nd, rfl⟩⟩; refine ⟨_, rfl, ?_⟩))
                    go_ret
                    exact ⟨by first | rfl | (simp; done) | (simp [*]; done), by repeat (first | exact Drawn0.refl _ | apply Drawn0.step)⟩
              · rw [if_neg c10] at H
                exact absurd H (by simp)
            · rw [if_neg c9] at H
              have c9b0 : ((a0.size : Int) == 1) = false := beq_eq_false_iff_ne.mpr c9
              have c9b1 : ((a0.size : Int) != 1) = true := bne_iff_ne.mpr c9
              replace H := Option.bind_eq_some_iff.mp H
              obtain ⟨t118, A170, H⟩ := H
              replace H : (if t118 = (a0.size : Int) then (if a0.toList = ([92, 60, 111, 112, 101, 110, 62] : List UInt8) then (some false) else (some (a0.toList != ([92, 60, 99, 108, 111, 115, 101, 62] : List UInt8)))) else (some false)) = some r := H
              have A17 := Aside0.mk A170
              clear A170
              by_cases c18 : t118 = (a0.size : Int)
              · rw [if_pos c18] at H
                have c18b0 : (t118 == (a0.size : Int)) = true := beq_iff_eq.mpr c18
                have c18b1 : (t118 != (a0.size : Int)) = false := bne_eq_false_iff_eq.mpr c18
                clear c18
                by_cases c19 : a0.toList = ([92, 60, 111, 112, 101, 110, 62] : List UInt8)
                · rw [if_pos c19] at H
                  have c19b0 : (a0.toList == ([92, 60, 111, 112, 101, 110, 62] : List UInt8)) = true := beq_iff_eq.mpr c19
                  have c19b1 : (a0.toList != ([92, 60, 111, 112, 101, 110, 62] : List UInt8)) = false := bne_eq_false_iff_eq.mpr c19
                  clear c19
                  obtain rfl := Option.some.inj H
                  go_wp2_with (first | ((with_reducible refine gate_callee (f := 51) rfl ?_); refine goesL_ (some 12) rfl rfl Tryz.func51 (by kernel_rfl) rfl #[.string a0, .int .i64 0] rfl (by (try simp only [List.map_toArray, List.map_cons, List.map_nil]); first | done | rfl | (simp only [List.length_drop, List.length_take]; rfl)) ?_; (with_reducible refine (triforiumref14_ident.calls kj1 a0 0 t114 _ A5.out).mono ?_); rintro e w' ⟨rfl, ⟨nd, rfl⟩⟩; refine ⟨_, rfl, ?_⟩) | (go_at_call 52; (with_reducible refine (triforiumref14_run.calls kj1 a0 0 (⟨#[33, 35, 36, 37, 38, 42, 43, 45, 47, 58, 60, 61, 62, 64, 94, 124, 126]⟩ : ByteArray) t115 _ A7.out).mono ?_); rintro e w' ⟨rfl, ⟨nd, rfl⟩⟩) | ((with_reducible refine gate_callee (f := 54) rfl ?_); refine goesL_ (some 34) rfl rfl Tryz.func54 (by kernel_rfl) rfl #[.string a0, .int .i64 0] rfl (by (try simp only [List.map_toArray, List.map_cons, List.map_nil]); first | done | rfl | (simp only [List.length_drop, List.length_take]; rfl)) ?_; (with_reducible refine (triforiumref14_named.calls kj1 a0 0 t118 _ A17.out).mono ?_); rintro e w' ⟨rfl, ⟨nd, rfl⟩⟩; refine ⟨_, rfl, ?_⟩))
                  go_ret
                  exact ⟨by first | rfl | (simp; done) | (simp [*]; done), by repeat (first | exact Drawn0.refl _ | apply Drawn0.step)⟩
                · rw [if_neg c19] at H
                  have c19b0 : (a0.toList == ([92, 60, 111, 112, 101, 110, 62] : List UInt8)) = false := beq_eq_false_iff_ne.mpr c19
                  have c19b1 : (a0.toList != ([92, 60, 111, 112, 101, 110, 62] : List UInt8)) = true := bne_iff_ne.mpr c19
                  obtain rfl := Option.some.inj H
                  go_wp2_with (first | ((with_reducible refine gate_callee (f := 51) rfl ?_); refine goesL_ (some 12) rfl rfl Tryz.func51 (by kernel_rfl) rfl #[.string a0, .int .i64 0] rfl (by (try simp only [List.map_toArray, List.map_cons, List.map_nil]); first | done | rfl | (simp only [List.length_drop, List.length_take]; rfl)) ?_; (with_reducible refine (triforiumref14_ident.calls kj1 a0 0 t114 _ A5.out).mono ?_); rintro e w' ⟨rfl, ⟨nd, rfl⟩⟩; refine ⟨_, rfl, ?_⟩) | (go_at_call 52; (with_reducible refine (triforiumref14_run.calls kj1 a0 0 (⟨#[33, 35, 36, 37, 38, 42, 43, 45, 47, 58, 60, 61, 62, 64, 94, 124, 126]⟩ : ByteArray) t115 _ A7.out).mono ?_); rintro e w' ⟨rfl, ⟨nd, rfl⟩⟩) | ((with_reducible refine gate_callee (f := 54) rfl ?_); refine goesL_ (some 34) rfl rfl Tryz.func54 (by kernel_rfl) rfl #[.string a0, .int .i64 0] rfl (by (try simp only [List.map_toArray, List.map_cons, List.map_nil]); first | done | rfl | (simp only [List.length_drop, List.length_take]; rfl)) ?_; (with_reducible refine (triforiumref14_named.calls kj1 a0 0 t118 _ A17.out).mono ?_); rintro e w' ⟨rfl, ⟨nd, rfl⟩⟩; refine ⟨_, rfl, ?_⟩))
                  go_ret
                  exact ⟨by first | rfl | (simp; done) | (simp [*]; done), by repeat (first | exact Drawn0.refl _ | apply Drawn0.step)⟩
              · rw [if_neg c18] at H
                have c18b0 : (t118 == (a0.size : Int)) = false := beq_eq_false_iff_ne.mpr c18
                have c18b1 : (t118 != (a0.size : Int)) = true := bne_iff_ne.mpr c18
                obtain rfl := Option.some.inj H
                go_wp2_with (first | ((with_reducible refine gate_callee (f := 51) rfl ?_); refine goesL_ (some 12) rfl rfl Tryz.func51 (by kernel_rfl) rfl #[.string a0, .int .i64 0] rfl (by (try simp only [List.map_toArray, List.map_cons, List.map_nil]); first | done | rfl | (simp only [List.length_drop, List.length_take]; rfl)) ?_; (with_reducible refine (triforiumref14_ident.calls kj1 a0 0 t114 _ A5.out).mono ?_); rintro e w' ⟨rfl, ⟨nd, rfl⟩⟩; refine ⟨_, rfl, ?_⟩) | (go_at_call 52; (with_reducible refine (triforiumref14_run.calls kj1 a0 0 (⟨#[33, 35, 36, 37, 38, 42, 43, 45, 47, 58, 60, 61, 62, 64, 94, 124, 126]⟩ : ByteArray) t115 _ A7.out).mono ?_); rintro e w' ⟨rfl, ⟨nd, rfl⟩⟩) | ((with_reducible refine gate_callee (f := 54) rfl ?_); refine goesL_ (some 34) rfl rfl Tryz.func54 (by kernel_rfl) rfl #[.string a0, .int .i64 0] rfl (by (try simp only [List.map_toArray, List.map_cons, List.map_nil]); first | done | rfl | (simp only [List.length_drop, List.length_take]; rfl)) ?_; (with_reducible refine (triforiumref14_named.calls kj1 a0 0 t118 _ A17.out).mono ?_); rintro e w' ⟨rfl, ⟨nd, rfl⟩⟩; refine ⟨_, rfl, ?_⟩))
                go_ret
                exact ⟨by first | rfl | (simp; done) | (simp [*]; done), by repeat (first | exact Drawn0.refl _ | apply Drawn0.step)⟩

/-! ### triforiumref14_Check: function 26 -/
mutual
def triforiumref14_Check.l0 : Nat → List ByteArray → Int → Option (Int)
  | 0, _, _ => none
  | k + 1, x0, x3 => if x3 < (x0.length : Int) then (if 0 ≤ x3 then ((triforiumref14_isKeyword.f k (rdOf ByteArray.empty x0 x3)).bind fun t120 => (if t120 = true then (triforiumref14_Check.l1 k x0 x3 0) else (some 163))) else (none)) else (some 0)
def triforiumref14_Check.l1 : Nat → List ByteArray → Int → Int → Option (Int)
  | 0, _, _, _ => none
  | k + 1, x0, x3, x4 => if x4 < x3 then (if 0 ≤ x4 then (if x4 < (x0.length : Int) then (if 0 ≤ x3 then (if x3 < (x0.length : Int) then (if (rdOf ByteArray.empty x0 x4).toList = (rdOf ByteArray.empty x0 x3).toList then (some 10) else (triforiumref14_Check.l1 k x0 x3 (wrap64 (x4 + 1)))) else (none)) else (none)) else (none)) else (none)) else (triforiumref14_Check.l0 k x0 (wrap64 (x3 + 1)))
end
def triforiumref14_Check.f (k : Nat) (l0 : List ByteArray) : Option (Int) := if (l0.length : Int) > 500 then (some 5) else (triforiumref14_Check.l0 k l0 0)
theorem triforiumref14_Check.mono_l : ∀ k, (∀ y0 y1, LeO (triforiumref14_Check.l0 k y0 y1) (triforiumref14_Check.l0 (k + 1) y0 y1)) ∧ (∀ y0 y1 y2, LeO (triforiumref14_Check.l1 k y0 y1 y2) (triforiumref14_Check.l1 (k + 1) y0 y1 y2))
  | 0 => ⟨fun _ _ r h => by simp [triforiumref14_Check.l0] at h, fun _ _ _ r h => by simp [triforiumref14_Check.l1] at h⟩
  | k + 1 => by
    obtain ⟨ih0, ih1⟩ := triforiumref14_Check.mono_l k
    refine ⟨?_, ?_⟩
    · intro y0 y1
      unfold triforiumref14_Check.l0
      repeat' first
      | (with_reducible exact ih0 _ _)
      | (with_reducible exact ih1 _ _ _)
      | (with_reducible exact triforiumref14_isKeyword.mono _ _)
      | (with_reducible exact LeO.refl _)
      | (with_reducible exact LeO.none _)
      | (with_reducible refine LeO.ite ?_ ?_)
      | (with_reducible refine LeO.bind ?_ (fun _ => ?_))
      | exact ih0 _ _
      | exact ih1 _ _ _
      | exact triforiumref14_isKeyword.mono _ _
      | exact LeO.none _
      | refine LeO.ite ?_ ?_
      | refine LeO.bind ?_ (fun _ => ?_)
    · intro y0 y1 y2
      unfold triforiumref14_Check.l1
      repeat' first
      | (with_reducible exact ih0 _ _)
      | (with_reducible exact ih1 _ _ _)
      | (with_reducible exact triforiumref14_isKeyword.mono _ _)
      | (with_reducible exact LeO.refl _)
      | (with_reducible exact LeO.none _)
      | (with_reducible refine LeO.ite ?_ ?_)
      | (with_reducible refine LeO.bind ?_ (fun _ => ?_))
      | exact ih0 _ _
      | exact ih1 _ _ _
      | exact triforiumref14_isKeyword.mono _ _
      | exact LeO.none _
      | refine LeO.ite ?_ ?_
      | refine LeO.bind ?_ (fun _ => ?_)
theorem triforiumref14_Check.mono : ∀ a0 k, LeO (triforiumref14_Check.f k a0) (triforiumref14_Check.f (k + 1) a0) := by
  intro a0 k
  obtain ⟨ih0, ih1⟩ := triforiumref14_Check.mono_l k
  unfold triforiumref14_Check.f
  repeat' first
      | (with_reducible exact ih0 _ _)
      | (with_reducible exact ih1 _ _ _)
      | (with_reducible exact triforiumref14_isKeyword.mono _ _)
      | (with_reducible exact LeO.refl _)
      | (with_reducible exact LeO.none _)
      | (with_reducible refine LeO.ite ?_ ?_)
      | (with_reducible refine LeO.bind ?_ (fun _ => ?_))
      | exact ih0 _ _
      | exact ih1 _ _ _
      | exact triforiumref14_isKeyword.mono _ _
      | exact LeO.none _
      | refine LeO.ite ?_ ?_
      | refine LeO.bind ?_ (fun _ => ?_)
set_option maxHeartbeats 8000000 in
set_option maxRecDepth 100000 in
theorem triforiumref14_Check.calls (k : Nat) (A0 : Option Addr) (c0 : Nat) (l0 : List ByteArray) (r : Int) (w : World) (hr0 : Kd.C Kd.string w A0 l0.length l0) (hc0 : l0.length ≤ c0) (h : triforiumref14_Check.f k l0 = some r) :
    Calls Tryz.prog 26 #[.slice A0 l0.length c0] w fun e w' => e = .returned (.int .i64 r) ∧ Drawn0 w w' := by
  have HR0 := Aside0.mk hr0
  have HC0 := Aside0.mk hc0
  clear hr0 hc0
  have H : (if (l0.length : Int) > 500 then (some 5) else (triforiumref14_Check.l0 k l0 0)) = some r := h
  clear h
  by_cases c2 : (l0.length : Int) > 500
  · rw [if_pos c2] at H
    have c2b0 : decide (500 < (l0.length : Int)) = true := decide_eq_true c2
    have c2b1 : decide (500 < l0.length) = true := decide_eq_true (by omega)
    clear c2
    obtain rfl := Option.some.inj H
    go_enter Tryz.func26, Tryz.ntmps26
    go_wp2
    repeat (go_quiet (fail); try go_wp2)
    go_ret
    exact ⟨by first | rfl | (simp; done) | (simp [*]; done), by repeat (first | exact Drawn0.refl _ | apply Drawn0.step)⟩
  · rw [if_neg c2] at H
    have c2b0 : decide (500 < (l0.length : Int)) = false := decide_eq_false c2
    have c2b1 : decide (500 < l0.length) = false := decide_eq_false (by omega)
    clear c2
    have H' := Aside0.mk H
    clear H
    go_enter Tryz.func26, Tryz.ntmps26
    go_wp2
    repeat (go_quiet (fail); try go_wp2)
    go_loopg [3] k (fun kq v3 w' => ∃ (x3_1 : Int), v3 = .int .i64 x3_1 ∧ Aside0 (triforiumref14_Check.l0 kq l0 x3_1 = some r) ∧ Aside0 (kq ≤ k) ∧ Drawn0 w w')
    case atStart => exact ⟨(0), (by first | rfl | (simp; done) | (simp [*]; done)), H', ⟨Nat.le_refl _⟩, by repeat (first | exact Drawn0.refl _ | apply Drawn0.step)⟩
    case round =>
      clear H'
      try clear c2
      try clear c2b0
      try clear c2b1
      try clear p2
      obtain ⟨x3_1, rfl, HA, HK1, ⟨m1, rfl⟩⟩ := hrel
      cases gk with
      | zero => exact absurd HA.out (by simp [triforiumref14_Check.l0])
      | succ k1 =>
        have H := HA.out
        clear HA
        simp only [triforiumref14_Check.l0] at H
        by_cases c3 : x3_1 < (l0.length : Int)
        · rw [if_pos c3] at H
          have c3b0 : decide (x3_1 < (l0.length : Int)) = true := decide_eq_true c3
          clear c3
          by_cases c4 : 0 ≤ x3_1
          · rw [if_pos c4] at H
            have c4b0 : decide (0 ≤ x3_1) = true := decide_eq_true c4
            clear c4
            replace H := Option.bind_eq_some_iff.mp H
            obtain ⟨t120, A50, H⟩ := H
            replace H : (if t120 = true then (triforiumref14_Check.l1 k1 l0 x3_1 0) else (some 163)) = some r := H
            have A5 := Aside0.mk A50
            clear A50
            by_cases c6 : t120 = true
            · subst c6
              have H1 : (triforiumref14_Check.l1 k1 l0 x3_1 0) = some r := by rw [if_pos rfl] at H; exact H
              clear H
              have H := H1
              clear H1
              have H' := Aside0.mk H
              clear H
              have p119 : 0 ≤ (x3_1 : Int) := of_decide_eq_true (by first | (with_reducible assumption) | assumption)
              have q119 : x3_1 < (l0.length : Int) := of_decide_eq_true (by first | (with_reducible assumption) | assumption)
              obtain ⟨ad119, e119, hx119_0⟩ := Kd.at_string HR0.out x3_1 p119 q119
              cases e119
              replace p119 := eq_true p119
              replace q119 := eq_true q119
              go_wp2_with (first | (go_at_call 39; (with_reducible refine (triforiumref14_isKeyword.calls k1 (rdOf ByteArray.empty l0 x3_1) true _ A5.out).mono ?_); rintro e w' ⟨rfl, ⟨nd, rfl⟩⟩; (try first | exact ⟨rfl, _, World.drewN_drewN _ _ _⟩ | exact ⟨rfl, _, Eq.trans (World.drewN_drewN _ _ _) (congrArg (World.drewN _) (Nat.add_assoc _ _ _))⟩)))
              repeat (go_quiet (first | (go_at_call 39; (with_reducible refine (triforiumref14_isKeyword.calls k1 (rdOf ByteArray.empty l0 x3_1) true _ A5.out).mono ?_); rintro e w' ⟨rfl, ⟨nd, rfl⟩⟩; (try first | exact ⟨rfl, _, World.drewN_drewN _ _ _⟩ | exact ⟨rfl, _, Eq.trans (World.drewN_drewN _ _ _) (congrArg (World.drewN _) (Nat.add_assoc _ _ _))⟩))); try go_wp2_with (first | (go_at_call 39; (with_reducible refine (triforiumref14_isKeyword.calls k1 (rdOf ByteArray.empty l0 x3_1) true _ A5.out).mono ?_); rintro e w' ⟨rfl, ⟨nd, rfl⟩⟩; (try first | exact ⟨rfl, _, World.drewN_drewN _ _ _⟩ | exact ⟨rfl, _, Eq.trans (World.drewN_drewN _ _ _) (congrArg (World.drewN _) (Nat.add_assoc _ _ _))⟩))))
              go_loopg [4] k1 (fun kq v4 w' => ∃ (x4_2 : Int), v4 = .int .i64 x4_2 ∧ Aside0 (triforiumref14_Check.l1 kq l0 x3_1 x4_2 = some r) ∧ Aside0 (kq ≤ k1) ∧ Drawn0 w w')
              case atStart => exact ⟨(0), (by first | rfl | (simp; done) | (simp [*]; done)), H', ⟨Nat.le_refl _⟩, by repeat (first | exact Drawn0.refl _ | apply Drawn0.step)⟩
              case round =>
                clear H'
                try clear p1
                try clear q1
                try clear hx1
                try clear c2
                try clear c2b0
                try clear c2b1
                try clear p2
                try clear c3
                try clear c3b0
                try clear c4
                try clear c4b0
                try clear c6
                try clear hx119_0
                try clear p119
                try clear p2
                try clear q119
                obtain ⟨x4_2, rfl, HA, HK2, ⟨m2, rfl⟩⟩ := hrel
                cases gk with
                | zero => exact absurd HA.out (by simp [triforiumref14_Check.l1])
                | succ k2 =>
                  have H := HA.out
                  clear HA
                  simp only [triforiumref14_Check.l1] at H
                  by_cases c7 : x4_2 < x3_1
                  · rw [if_pos c7] at H
                    have c7b0 : decide (x4_2 < x3_1) = true := decide_eq_true c7
                    clear c7
                    by_cases c8 : 0 ≤ x4_2
                    · rw [if_pos c8] at H
                      have c8b0 : decide (0 ≤ x4_2) = true := decide_eq_true c8
                      clear c8
                      by_cases c9 : x4_2 < (l0.length : Int)
                      · rw [if_pos c9] at H
                        have c9b0 : decide (x4_2 < (l0.length : Int)) = true := decide_eq_true c9
                        clear c9
                        by_cases c10 : 0 ≤ x3_1
                        · rw [if_pos c10] at H
                          have c10b0 : decide (0 ≤ x3_1) = true := decide_eq_true c10
                          clear c10
                          by_cases c11 : x3_1 < (l0.length : Int)
                          · rw [if_pos c11] at H
                            have c11b0 : decide (x3_1 < (l0.length : Int)) = true := decide_eq_true c11
                            clear c11
                            by_cases c12 : (rdOf ByteArray.empty l0 x4_2).toList = (rdOf ByteArray.empty l0 x3_1).toList
                            · rw [if_pos c12] at H
                              have c12b0 : ((rdOf ByteArray.empty l0 x4_2).toList == (rdOf ByteArray.empty l0 x3_1).toList) = true := beq_iff_eq.mpr c12
                              have c12b1 : ((rdOf ByteArray.empty l0 x4_2).toList != (rdOf ByteArray.empty l0 x3_1).toList) = false := bne_eq_false_iff_eq.mpr c12
                              clear c12
                              obtain rfl := Option.some.inj H
                              have p121 : 0 ≤ (x4_2 : Int) := of_decide_eq_true (by first | (with_reducible assumption) | assumption)
                              have q121 : x4_2 < (l0.length : Int) := of_decide_eq_true (by first | (with_reducible assumption) | assumption)
                              obtain ⟨ad121, e121, hx121_0⟩ := Kd.at_string HR0.out x4_2 p121 q121
                              obtain rfl : ad119 = ad121 := (by injection e121)
                              replace p121 := eq_true p121
                              replace q121 := eq_true q121
                              have p122 : 0 ≤ (x3_1 : Int) := of_decide_eq_true (by first | (with_reducible assumption) | assumption)
                              have q122 : x3_1 < (l0.length : Int) := of_decide_eq_true (by first | (with_reducible assumption) | assumption)
                              obtain ⟨ad122, e122, hx122_0⟩ := Kd.at_string HR0.out x3_1 p122 q122
                              obtain rfl : ad119 = ad122 := (by injection e122)
                              replace p122 := eq_true p122
                              replace q122 := eq_true q122
                              go_wp2
                              repeat (go_quiet (fail); try go_wp2)
                              go_ret
                              exact ⟨by first | rfl | (simp; done) | (simp [*]; done), by repeat (first | exact Drawn0.refl _ | apply Drawn0.step)⟩
                            · rw [if_neg c12] at H
                              have c12b0 : ((rdOf ByteArray.empty l0 x4_2).toList == (rdOf ByteArray.empty l0 x3_1).toList) = false := beq_eq_false_iff_ne.mpr c12
                              have c12b1 : ((rdOf ByteArray.empty l0 x4_2).toList != (rdOf ByteArray.empty l0 x3_1).toList) = true := bne_iff_ne.mpr c12
                              have H' := Aside0.mk H
                              clear H
                              have p121 : 0 ≤ (x4_2 : Int) := of_decide_eq_true (by first | (with_reducible assumption) | assumption)
                              have q121 : x4_2 < (l0.length : Int) := of_decide_eq_true (by first | (with_reducible assumption) | assumption)
                              obtain ⟨ad121, e121, hx121_0⟩ := Kd.at_string HR0.out x4_2 p121 q121
                              obtain rfl : ad119 = ad121 := (by injection e121)
                              replace p121 := eq_true p121
                              replace q121 := eq_true q121
                              have p122 : 0 ≤ (x3_1 : Int) := of_decide_eq_true (by first | (with_reducible assumption) | assumption)
                              have q122 : x3_1 < (l0.length : Int) := of_decide_eq_true (by first | (with_reducible assumption) | assumption)
                              obtain ⟨ad122, e122, hx122_0⟩ := Kd.at_string HR0.out x3_1 p122 q122
                              obtain rfl : ad119 = ad122 := (by injection e122)
                              replace p122 := eq_true p122
                              replace q122 := eq_true q122
                              go_wp2
                              repeat (go_quiet (fail); try go_wp2)
                              go_roundg k2
                              case measure => have := HK1.out; have := HK2.out; omega
                              case rel => exact ⟨(wrap64 (x4_2 + 1)), (by first | rfl | (simp; done) | (simp [*]; done)), H', ⟨by have := HK1.out; have := HK2.out; omega⟩, by repeat (first | exact Drawn0.refl _ | apply Drawn0.step)⟩
                          · rw [if_neg c11] at H
                            exact absurd H (by simp)
                        · rw [if_neg c10] at H
                          exact absurd H (by simp)
                      · rw [if_neg c9] at H
                        exact absurd H (by simp)
                    · rw [if_neg c8] at H
                      exact absurd H (by simp)
                  · rw [if_neg c7] at H
                    have c7b0 : decide (x4_2 < x3_1) = false := decide_eq_false c7
                    clear c7
                    have H' := Aside0.mk H
                    clear H
                    go_wp2
                    repeat (go_quiet (fail); try go_wp2)
                    go_roundg k2
                    case measure => have := HK1.out; have := HK2.out; omega
                    case rel => exact ⟨(wrap64 (x3_1 + 1)), (by first | rfl | (simp; done) | (simp [*]; done)), H', ⟨by have := HK1.out; have := HK2.out; omega⟩, by repeat (first | exact Drawn0.refl _ | apply Drawn0.step)⟩
            · replace c6 := Bool.eq_false_iff.mpr c6
              subst c6
              have H1 : (some 163) = some r := by rw [if_neg (show ¬ (false = true) by decide)] at H; exact H
              clear H
              have H := H1
              clear H1
              obtain rfl := Option.some.inj H
              have p119 : 0 ≤ (x3_1 : Int) := of_decide_eq_true (by first | (with_reducible assumption) | assumption)
              have q119 : x3_1 < (l0.length : Int) := of_decide_eq_true (by first | (with_reducible assumption) | assumption)
              obtain ⟨ad119, e119, hx119_0⟩ := Kd.at_string HR0.out x3_1 p119 q119
              cases e119
              replace p119 := eq_true p119
              replace q119 := eq_true q119
              go_wp2_with (first | (go_at_call 39; (with_reducible refine (triforiumref14_isKeyword.calls k1 (rdOf ByteArray.empty l0 x3_1) false _ A5.out).mono ?_); rintro e w' ⟨rfl, ⟨nd, rfl⟩⟩; (try first | exact ⟨rfl, _, World.drewN_drewN _ _ _⟩ | exact ⟨rfl, _, Eq.trans (World.drewN_drewN _ _ _) (congrArg (World.drewN _) (Nat.add_assoc _ _ _))⟩)))
              repeat (go_quiet (first | (go_at_call 39; (with_reducible refine (triforiumref14_isKeyword.calls k1 (rdOf ByteArray.empty l0 x3_1) false _ A5.out).mono ?_); rintro e w' ⟨rfl, ⟨nd, rfl⟩⟩; (try first | exact ⟨rfl, _, World.drewN_drewN _ _ _⟩ | exact ⟨rfl, _, Eq.trans (World.drewN_drewN _ _ _) (congrArg (World.drewN _) (Nat.add_assoc _ _ _))⟩))); try go_wp2_with (first | (go_at_call 39; (with_reducible refine (triforiumref14_isKeyword.calls k1 (rdOf ByteArray.empty l0 x3_1) false _ A5.out).mono ?_); rintro e w' ⟨rfl, ⟨nd, rfl⟩⟩; (try first | exact ⟨rfl, _, World.drewN_drewN _ _ _⟩ | exact ⟨rfl, _, Eq.trans (World.drewN_drewN _ _ _) (congrArg (World.drewN _) (Nat.add_assoc _ _ _))⟩))))
              go_ret
              exact ⟨by first | rfl | (simp; done) | (simp [*]; done), by repeat (first | exact Drawn0.refl _ | apply Drawn0.step)⟩
          · rw [if_neg c4] at H
            exact absurd H (by simp)
        · rw [if_neg c3] at H
          have c3b0 : decide (x3_1 < (l0.length : Int)) = false := decide_eq_false c3
          clear c3
          obtain rfl := Option.some.inj H
          go_wp2
          repeat (go_quiet (fail); try go_wp2)
          go_ret
          exact ⟨by first | rfl | (simp; done) | (simp [*]; done), by repeat (first | exact Drawn0.refl _ | apply Drawn0.step)⟩

end Go.Proofs.YtmkfeanggmjhmaaGreat.PTokenWrites
