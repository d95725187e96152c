-- PRINTED BY print.sh 35421559b90ae4d0a3588c463048766b98c2df88dd9212a6774a882060cdf62d: not written by this session
import Derived.Test.YtmkfeanggmjhmaaGreatPTokenWritesx0
import Derived.Test.YtmkfeanggmjhmaaGreatPTokenWritesx1
import Derived.Test.YtmkfeanggmjhmaaGreatPTokenWritesx2
import Derived.Test.YtmkfeanggmjhmaaGreatPTokenWritesx4
namespace Go.Proofs.YtmkfeanggmjhmaaGreat.PTokenWrites
open Go.RowKit Go.Proofs.YtmkfeanggmjhmaaGreatW.PrintWords Go.Proofs.YtmkfeanggmjhmaaGreatW.PrintLast Go.Proofs.YtmkfeanggmjhmaaGreatW.PrintMore
attribute [local go_sem] max2_int min2_int max_two min_two max_three min_three max_four min_four   -- for this text's walks alone
set_option linter.unusedVariables false
set_option linter.unusedSimpArgs false

/-! ### triforiumref14_plain: function 58 -/
mutual
def triforiumref14_plain.l0 : Nat → ByteArray → Int → Int → Option (Int × Int)
  | 0, _, _, _ => none
  | k + 1, x0, x7, x8 => if x7 < (x0.size : Int) then (if 0 ≤ x7 then (if (bt x0 x7) = 46 then ((triforiumref14_ident.f k x0 (wrap64 (x7 + 1))).bind fun t134 => (if t134 > (wrap64 (x7 + 1)) then ((triforiumref14_ident.f k x0 (wrap64 (x7 + 1))).bind fun t135 => (triforiumref14_plain.l0 k x0 t135 2)) else (some (x8, x7)))) else (some (x8, x7))) else (none)) else (some (x8, x7))
def triforiumref14_plain.j1 : Nat → ByteArray → Int → Int → Bool → Option (Int × Int)
  | 0, _, _, _, _ => none
  | k + 1, x0, x1, x6, x43 => if x43 = true then ((triforiumref14_ident.f k x0 (wrap64 (x1 + 1))).bind fun t137 => (some (3, t137))) else (if x6 = 63 then ((triforiumref14_ident.f k x0 (wrap64 (x1 + 1))).bind fun t138 => (triforiumref14_plain.j2 k x0 x1 x6 (decide (t138 > (wrap64 (x1 + 1)))))) else (triforiumref14_plain.j2 k x0 x1 x6 false))
def triforiumref14_plain.j2 : Nat → ByteArray → Int → Int → Bool → Option (Int × Int)
  | 0, _, _, _, _ => none
  | k + 1, x0, x1, x6, x59 => if x59 = true then ((triforiumref14_ident.f k x0 (wrap64 (x1 + 1))).bind fun t139 => ((triforiumref14_index.f k x0 t139).bind fun t140 => (some (4, t140)))) else ((triforiumref14_starts.f x0 x1 (⟨#[63, 39]⟩ : ByteArray)).bind fun t141 => (if t141 = true then ((triforiumref14_ident.f k x0 (wrap64 (x1 + 2))).bind fun t142 => (triforiumref14_plain.j3 k x0 x1 x6 (decide (t142 > (wrap64 (x1 + 2)))))) else (triforiumref14_plain.j3 k x0 x1 x6 false)))
def triforiumref14_plain.j3 : Nat → ByteArray → Int → Int → Bool → Option (Int × Int)
  | 0, _, _, _, _ => none
  | k + 1, x0, x1, x6, x77 => if x77 = true then ((triforiumref14_ident.f k x0 (wrap64 (x1 + 2))).bind fun t143 => ((triforiumref14_index.f k x0 t143).bind fun t144 => (some (5, t144)))) else ((triforiumref14_digit.f x6).bind fun t145 => (if t145 = true then ((triforiumref14_run.f k x0 x1 (⟨#[48, 49, 50, 51, 52, 53, 54, 55, 56, 57]⟩ : ByteArray)).bind fun t146 => (some (6, t146))) else ((triforiumref14_has.f k (⟨#[33, 35, 36, 37, 38, 42, 43, 45, 47, 58, 60, 61, 62, 64, 94, 124, 126]⟩ : ByteArray) x6).bind fun t147 => (if t147 = true then ((triforiumref14_run.f k x0 x1 (⟨#[33, 35, 36, 37, 38, 42, 43, 45, 47, 58, 60, 61, 62, 64, 94, 124, 126]⟩ : ByteArray)).bind fun t148 => (some (7, t148))) else ((triforiumref14_has.f k (⟨#[40, 41, 91, 93, 123, 125, 44, 59, 46]⟩ : ByteArray) x6).bind fun t149 => (if t149 = true then (some (7, wrap64 (x1 + 1))) else ((triforiumref14_named.f k x0 x1).bind fun t150 => (some (7, t150)))))))))
end
def triforiumref14_plain.f (k : Nat) (a0 : ByteArray) (a1 : Int) : Option (Int × Int) := if 0 ≤ a1 then (if a1 < (a0.size : Int) then ((triforiumref14_letter.f (bt a0 a1)).bind fun t132 => (if t132 = true then ((triforiumref14_ident.f k a0 a1).bind fun t133 => (triforiumref14_plain.l0 k a0 t133 1)) else (if (bt a0 a1) = 39 then ((triforiumref14_ident.f k a0 (wrap64 (a1 + 1))).bind fun t136 => (triforiumref14_plain.j1 k a0 a1 (bt a0 a1) (decide (t136 > (wrap64 (a1 + 1)))))) else (triforiumref14_plain.j1 k a0 a1 (bt a0 a1) false)))) else (none)) else (none)
theorem triforiumref14_plain.mono_l : ∀ k, (∀ y0 y1 y2, LeO (triforiumref14_plain.l0 k y0 y1 y2) (triforiumref14_plain.l0 (k + 1) y0 y1 y2)) ∧ (∀ y0 y1 y2 y3, LeO (triforiumref14_plain.j1 k y0 y1 y2 y3) (triforiumref14_plain.j1 (k + 1) y0 y1 y2 y3)) ∧ (∀ y0 y1 y2 y3, LeO (triforiumref14_plain.j2 k y0 y1 y2 y3) (triforiumref14_plain.j2 (k + 1) y0 y1 y2 y3)) ∧ (∀ y0 y1 y2 y3, LeO (triforiumref14_plain.j3 k y0 y1 y2 y3) (triforiumref14_plain.j3 (k + 1) y0 y1 y2 y3))
  | 0 => ⟨fun _ _ _ r h => by simp [triforiumref14_plain.l0] at h, fun _ _ _ _ r h => by simp [triforiumref14_plain.j1] at h, fun _ _ _ _ r h => by simp [triforiumref14_plain.j2] at h, fun _ _ _ _ r h => by simp [triforiumref14_plain.j3] at h⟩
  | k + 1 => by
    obtain ⟨ih0, ih1, ih2, ih3⟩ := triforiumref14_plain.mono_l k
    refine ⟨?_, ?_, ?_, ?_⟩
    · intro y0 y1 y2
      unfold triforiumref14_plain.l0
      repeat' first
      | (with_reducible exact ih0 _ _ _)
      | (with_reducible exact ih1 _ _ _ _)
      | (with_reducible exact ih2 _ _ _ _)
      | (with_reducible exact ih3 _ _ _ _)
      | (with_reducible exact triforiumref14_has.mono _ _ _)
      | (with_reducible exact triforiumref14_ident.mono _ _ _)
      | (with_reducible exact triforiumref14_index.mono _ _ _)
      | (with_reducible exact triforiumref14_named.mono _ _ _)
      | (with_reducible exact triforiumref14_run.mono _ _ _ _)
      | (with_reducible exact LeO.refl _)
      | (with_reducible exact LeO.none _)
      | (with_reducible refine LeO.ite ?_ ?_)
      | (with_reducible refine LeO.bind ?_ (fun _ => ?_))
      | exact ih0 _ _ _
      | exact ih1 _ _ _ _
      | exact ih2 _ _ _ _
      | exact ih3 _ _ _ _
      | exact triforiumref14_has.mono _ _ _
      | exact triforiumref14_ident.mono _ _ _
      | exact triforiumref14_index.mono _ _ _
      | exact triforiumref14_named.mono _ _ _
      | exact triforiumref14_run.mono _ _ _ _
      | exact LeO.none _
      | refine LeO.ite ?_ ?_
      | refine LeO.bind ?_ (fun _ => ?_)
    · intro y0 y1 y2 y3
      unfold triforiumref14_plain.j1
      repeat' first
      | (with_reducible exact ih0 _ _ _)
      | (with_reducible exact ih1 _ _ _ _)
      | (with_reducible exact ih2 _ _ _ _)
      | (with_reducible exact ih3 _ _ _ _)
      | (with_reducible exact triforiumref14_has.mono _ _ _)
      | (with_reducible exact triforiumref14_ident.mono _ _ _)
      | (with_reducible exact triforiumref14_index.mono _ _ _)
      | (with_reducible exact triforiumref14_named.mono _ _ _)
      | (with_reducible exact triforiumref14_run.mono _ _ _ _)
      | (with_reducible exact LeO.refl _)
      | (with_reducible exact LeO.none _)
      | (with_reducible refine LeO.ite ?_ ?_)
      | (with_reducible refine LeO.bind ?_ (fun _ => ?_))
      | exact ih0 _ _ _
      | exact ih1 _ _ _ _
      | exact ih2 _ _ _ _
      | exact ih3 _ _ _ _
      | exact triforiumref14_has.mono _ _ _
      | exact triforiumref14_ident.mono _ _ _
      | exact triforiumref14_index.mono _ _ _
      | exact triforiumref14_named.mono _ _ _
      | exact triforiumref14_run.mono _ _ _ _
      | exact LeO.none _
      | refine LeO.ite ?_ ?_
      | refine LeO.bind ?_ (fun _ => ?_)
    · intro y0 y1 y2 y3
      unfold triforiumref14_plain.j2
      repeat' first
      | (with_reducible exact ih0 _ _ _)
      | (with_reducible exact ih1 _ _ _ _)
      | (with_reducible exact ih2 _ _ _ _)
      | (with_reducible exact ih3 _ _ _ _)
      | (with_reducible exact triforiumref14_has.mono _ _ _)
      | (with_reducible exact triforiumref14_ident.mono _ _ _)
      | (with_reducible exact triforiumref14_index.mono _ _ _)
      | (with_reducible exact triforiumref14_named.mono _ _ _)
      | (with_reducible exact triforiumref14_run.mono _ _ _ _)
      | (with_reducible exact LeO.refl _)
      | (with_reducible exact LeO.none _)
      | (with_reducible refine LeO.ite ?_ ?_)
      | (with_reducible refine LeO.bind ?_ (fun _ => ?_))
      | exact ih0 _ _ _
      | exact ih1 _ _ _ _
      | exact ih2 _ _ _ _
      | exact ih3 _ _ _ _
      | exact triforiumref14_has.mono _ _ _
      | exact triforiumref14_ident.mono _ _ _
      | exact triforiumref14_index.mono _ _ _
      | exact triforiumref14_named.mono _ _ _
      | exact triforiumref14_run.mono _ _ _ _
      | exact LeO.none _
      | refine LeO.ite ?_ ?_
      | refine LeO.bind ?_ (fun _ => ?_)
    · intro y0 y1 y2 y3
      unfold triforiumref14_plain.j3
      repeat' first
      | (with_reducible exact ih0 _ _ _)
      | (with_reducible exact ih1 _ _ _ _)
      | (with_reducible exact ih2 _ _ _ _)
      | (with_reducible exact ih3 _ _ _ _)
      | (with_reducible exact triforiumref14_has.mono _ _ _)
      | (with_reducible exact triforiumref14_ident.mono _ _ _)
      | (with_reducible exact triforiumref14_index.mono _ _ _)
      | (with_reducible exact triforiumref14_named.mono _ _ _)
      | (with_reducible exact triforiumref14_run.mono _ _ _ _)
      | (with_reducible exact LeO.refl _)
      | (with_reducible exact LeO.none _)
      | (with_reducible refine LeO.ite ?_ ?_)
      | (with_reducible refine LeO.bind ?_ (fun _ => ?_))
      | exact ih0 _ _ _
      | exact ih1 _ _ _ _
      | exact ih2 _ _ _ _
      | exact ih3 _ _ _ _
      | exact triforiumref14_has.mono _ _ _
      | exact triforiumref14_ident.mono _ _ _
      | exact triforiumref14_index.mono _ _ _
      | exact triforiumref14_named.mono _ _ _
      | exact triforiumref14_run.mono _ _ _ _
      | exact LeO.none _
      | refine LeO.ite ?_ ?_
      | refine LeO.bind ?_ (fun _ => ?_)
theorem triforiumref14_plain.mono : ∀ a0 a1 k, LeO (triforiumref14_plain.f k a0 a1) (triforiumref14_plain.f (k + 1) a0 a1) := by
  intro a0 a1 k
  obtain ⟨ih0, ih1, ih2, ih3⟩ := triforiumref14_plain.mono_l k
  unfold triforiumref14_plain.f
  repeat' first
      | (with_reducible exact ih0 _ _ _)
      | (with_reducible exact ih1 _ _ _ _)
      | (with_reducible exact ih2 _ _ _ _)
      | (with_reducible exact ih3 _ _ _ _)
      | (with_reducible exact triforiumref14_has.mono _ _ _)
      | (with_reducible exact triforiumref14_ident.mono _ _ _)
      | (with_reducible exact triforiumref14_index.mono _ _ _)
      | (with_reducible exact triforiumref14_named.mono _ _ _)
      | (with_reducible exact triforiumref14_run.mono _ _ _ _)
      | (with_reducible exact LeO.refl _)
      | (with_reducible exact LeO.none _)
      | (with_reducible refine LeO.ite ?_ ?_)
      | (with_reducible refine LeO.bind ?_ (fun _ => ?_))
      | exact ih0 _ _ _
      | exact ih1 _ _ _ _
      | exact ih2 _ _ _ _
      | exact ih3 _ _ _ _
      | exact triforiumref14_has.mono _ _ _
      | exact triforiumref14_ident.mono _ _ _
      | exact triforiumref14_index.mono _ _ _
      | exact triforiumref14_named.mono _ _ _
      | exact triforiumref14_run.mono _ _ _ _
      | exact LeO.none _
      | refine LeO.ite ?_ ?_
      | refine LeO.bind ?_ (fun _ => ?_)
set_option maxHeartbeats 8000000 in
set_option maxRecDepth 100000 in
theorem triforiumref14_plain.calls (k : Nat) (a0 : ByteArray) (a1 : Int) (r1 : Int) (r2 : Int) (w : World) (h : triforiumref14_plain.f k a0 a1 = some (r1, r2)) :
    Calls Tryz.prog 58 #[.string a0, .int .i64 a1] w fun e w' => e = .returned (.tuple #[.int .i64 r1, .int .i64 r2]) ∧ Below w.heap.size w w' := by
  have HB := Aside0.mk (Below.refl w.heap.size w)
  have H : (if 0 ≤ a1 then (if a1 < (a0.size : Int) then ((triforiumref14_letter.f (bt a0 a1)).bind fun t132 => (if t132 = true then ((triforiumref14_ident.f k a0 a1).bind fun t133 => (triforiumref14_plain.l0 k a0 t133 1)) else (if (bt a0 a1) = 39 then ((triforiumref14_ident.f k a0 (wrap64 (a1 + 1))).bind fun t136 => (triforiumref14_plain.j1 k a0 a1 (bt a0 a1) (decide (t136 > (wrap64 (a1 + 1)))))) else (triforiumref14_plain.j1 k a0 a1 (bt a0 a1) false)))) else (none)) else (none)) = some (r1, r2) := h
  clear h
  by_cases c3 : 0 ≤ a1
  · rw [if_pos c3] at H
    have c3b0 : decide (0 ≤ a1) = true := decide_eq_true c3
    clear c3
    by_cases c4 : a1 < (a0.size : Int)
    · rw [if_pos c4] at H
      have c4b0 : decide (a1 < (a0.size : Int)) = true := decide_eq_true c4
      clear c4
      replace H := Option.bind_eq_some_iff.mp H
      obtain ⟨t132, A60, H⟩ := H
      replace H : (if t132 = true then ((triforiumref14_ident.f k a0 a1).bind fun t133 => (triforiumref14_plain.l0 k a0 t133 1)) else (if (bt a0 a1) = 39 then ((triforiumref14_ident.f k a0 (wrap64 (a1 + 1))).bind fun t136 => (triforiumref14_plain.j1 k a0 a1 (bt a0 a1) (decide (t136 > (wrap64 (a1 + 1)))))) else (triforiumref14_plain.j1 k a0 a1 (bt a0 a1) false))) = some (r1, r2) := H
      have A6 := Aside0.mk A60
      clear A60
      by_cases c7 : t132 = true
      · subst c7
        have H1 : ((triforiumref14_ident.f k a0 a1).bind fun t133 => (triforiumref14_plain.l0 k a0 t133 1)) = some (r1, r2) := by rw [if_pos rfl] at H; exact H
        clear H
        have H := H1
        clear H1
        replace H := Option.bind_eq_some_iff.mp H
        obtain ⟨t133, A80, H⟩ := H
        replace H : (triforiumref14_plain.l0 k a0 t133 1) = some (r1, r2) := H
        have A8 := Aside0.mk A80
        clear A80
        have H' := Aside0.mk H
        clear H
        have p5 : 0 ≤ (a1 : Int) := of_decide_eq_true (by first | (with_reducible assumption) | assumption)
        have q5 : a1 < (a0.size : Int) := of_decide_eq_true (by first | (with_reducible assumption) | assumption)
        have hx5 := bt_at a0 a1
        replace p5 := eq_true p5
        replace q5 := eq_true q5
        go_enter Tryz.func58, Tryz.ntmps58
        go_wp2_with (first | ((with_reducible refine gate_callee (f := 59) rfl ?_); refine goesL_ (some 14) rfl rfl Tryz.func59 (by kernel_rfl) rfl #[.int .u8 (bt a0 a1)] rfl (by (try simp only [List.map_toArray, List.map_cons, List.map_nil]); first | done | rfl | (simp only [List.length_drop, List.length_take]; rfl)) ?_; (with_reducible refine (triforiumref14_letter.calls (bt a0 a1) true _ A6.out).mono ?_); rintro e w' ⟨rfl, ⟨nd, rfl⟩⟩; refine ⟨_, rfl, ?_⟩) | ((with_reducible refine gate_callee (f := 51) rfl ?_); refine goesL_ (some 17) rfl rfl Tryz.func51 (by kernel_rfl) rfl #[.string a0, .int .i64 a1] rfl (by (try simp only [List.map_toArray, List.map_cons, List.map_nil]); first | done | rfl | (simp only [List.length_drop, List.length_take]; rfl)) ?_; (with_reducible refine (triforiumref14_ident.calls k a0 a1 t133 _ A8.out).mono ?_); rintro e w' ⟨rfl, ⟨nd, rfl⟩⟩; refine ⟨_, rfl, ?_⟩))
        go_loopg [7, 8] k (fun kq v7 v8 w' => ∃ (x7_1 : Int) (x8_1 : Int), v7 = .int .i64 x7_1 ∧ v8 = .int .i64 x8_1 ∧ Aside0 (triforiumref14_plain.l0 kq a0 x7_1 x8_1 = some (r1, r2)) ∧ Aside0 (kq ≤ k) ∧ Aside0 (Below w.heap.size w w'))
        case atStart => exact ⟨(t133), (1), (by first | rfl | (simp; done) | (simp [*]; done)), (by first | rfl | (simp; done) | (simp [*]; done)), H', ⟨Nat.le_refl _⟩, ⟨by repeat (first | (with_reducible first | exact HB.out | apply below_alloc | apply pw_below_drewN | apply below_drew1) | exact HB.out)⟩⟩
        case round =>
          clear H'
          try clear p2
          try clear c3
          try clear c3b0
          try clear c4
          try clear c4b0
          try clear c5
          try clear p5
          try clear q5
          try clear hx5
          try clear p6
          try clear c7
          try clear p5
          try clear q5
          obtain ⟨x7_1, x8_1, rfl, rfl, HA, HK1, HB⟩ := hrel
          cases gk with
          | zero => exact absurd HA.out (by simp [triforiumref14_plain.l0])
          | succ k1 =>
            have H := HA.out
            clear HA
            simp only [triforiumref14_plain.l0] at H
            by_cases c9 : x7_1 < (a0.size : Int)
            · rw [if_pos c9] at H
              have c9b0 : decide (x7_1 < (a0.size : Int)) = true := decide_eq_true c9
              clear c9
              by_cases c10 : 0 ≤ x7_1
              · rw [if_pos c10] at H
                have c10b0 : decide (0 ≤ x7_1) = true := decide_eq_true c10
                clear c10
                by_cases c12 : (bt a0 x7_1) = 46
                · rw [if_pos c12] at H
                  have c12b0 : ((bt a0 x7_1) == 46) = true := beq_iff_eq.mpr c12
                  have c12b1 : ((bt a0 x7_1) != 46) = false := bne_eq_false_iff_eq.mpr c12
                  clear c12
                  replace H := Option.bind_eq_some_iff.mp H
                  obtain ⟨t134, A130, H⟩ := H
                  replace H : (if t134 > (wrap64 (x7_1 + 1)) then ((triforiumref14_ident.f k1 a0 (wrap64 (x7_1 + 1))).bind fun t135 => (triforiumref14_plain.l0 k1 a0 t135 2)) else (some (x8_1, x7_1))) = some (r1, r2) := H
                  have A13 := Aside0.mk A130
                  clear A130
                  by_cases c14 : t134 > (wrap64 (x7_1 + 1))
                  · rw [if_pos c14] at H
                    have c14b0 : decide ((wrap64 (x7_1 + 1)) < t134) = true := decide_eq_true c14
                    clear c14
                    replace H := Option.bind_eq_some_iff.mp H
                    obtain ⟨t135, A150, H⟩ := H
                    replace H : (triforiumref14_plain.l0 k1 a0 t135 2) = some (r1, r2) := H
                    have A15 := Aside0.mk A150
                    clear A150
                    have H' := Aside0.mk H
                    clear H
                    have p11 : 0 ≤ (x7_1 : Int) := of_decide_eq_true (by first | (with_reducible assumption) | assumption)
                    have q11 : x7_1 < (a0.size : Int) := of_decide_eq_true (by first | (with_reducible assumption) | assumption)
                    have hx11 := bt_at a0 x7_1
                    replace p11 := eq_true p11
                    replace q11 := eq_true q11
                    go_wp2_with (first | (go_at_call 51; (with_reducible refine (triforiumref14_ident.calls k1 a0 (wrap64 (x7_1 + 1)) t134 _ A13.out).mono ?_); rintro e w' ⟨rfl, ⟨nd, rfl⟩⟩) | ((with_reducible refine gate_callee (f := 51) rfl ?_); refine goesL_ (some 40) rfl rfl Tryz.func51 (by kernel_rfl) rfl #[.string a0, .int .i64 (wrap64 (x7_1 + 1))] rfl (by (try simp only [List.map_toArray, List.map_cons, List.map_nil]); first | done | rfl | (simp only [List.length_drop, List.length_take]; rfl)) ?_; (with_reducible refine (triforiumref14_ident.calls k1 a0 (wrap64 (x7_1 + 1)) t135 _ A15.out).mono ?_); rintro e w' ⟨rfl, ⟨nd, rfl⟩⟩; refine ⟨_, rfl, ?_⟩))
                    go_roundg k1
                    case measure => have := HK1.out; omega
                    case rel => exact ⟨(t135), (2), (by first | rfl | (simp; done) | (simp [*]; done)), (by first | rfl | (simp; done) | (simp [*]; done)), H', ⟨by have := HK1.out; omega⟩, ⟨by repeat (first | (with_reducible first | exact HB.out | apply below_alloc | apply pw_below_drewN | apply below_drew1) | exact HB.out)⟩⟩
                  · rw [if_neg c14] at H
                    have c14b0 : decide ((wrap64 (x7_1 + 1)) < t134) = false := decide_eq_false c14
                    clear c14
                    simp only [Option.some.injEq, Prod.mk.injEq] at H
                    obtain ⟨rfl, rfl⟩ := H
                    have p11 : 0 ≤ (x7_1 : Int) := of_decide_eq_true (by first | (with_reducible assumption) | assumption)
                    have q11 : x7_1 < (a0.size : Int) := of_decide_eq_true (by first | (with_reducible assumption) | assumption)
                    have hx11 := bt_at a0 x7_1
                    replace p11 := eq_true p11
                    replace q11 := eq_true q11
                    go_wp2_with (first | (go_at_call 51; (with_reducible refine (triforiumref14_ident.calls k1 a0 (wrap64 (x7_1 + 1)) t134 _ A13.out).mono ?_); rintro e w' ⟨rfl, ⟨nd, rfl⟩⟩))
                    go_ret2
                    exact ⟨by first | rfl | (simp [errW_none, errW_some] <;> rfl) | (simp [*, errW_none, errW_some] <;> rfl), by repeat (first | (with_reducible first | exact HB.out | apply below_alloc | apply pw_below_drewN | apply below_drew1) | exact HB.out)⟩
                · rw [if_neg c12] at H
                  have c12b0 : ((bt a0 x7_1) == 46) = false := beq_eq_false_iff_ne.mpr c12
                  have c12b1 : ((bt a0 x7_1) != 46) = true := bne_iff_ne.mpr c12
                  simp only [Option.some.injEq, Prod.mk.injEq] at H
                  obtain ⟨rfl, rfl⟩ := H
                  have p11 : 0 ≤ (x7_1 : Int) := of_decide_eq_true (by first | (with_reducible assumption) | assumption)
                  have q11 : x7_1 < (a0.size : Int) := of_decide_eq_true (by first | (with_reducible assumption) | assumption)
                  have hx11 := bt_at a0 x7_1
                  replace p11 := eq_true p11
                  replace q11 := eq_true q11
                  go_wp2
                  go_ret2
                  exact ⟨by first | rfl | (simp [errW_none, errW_some] <;> rfl) | (simp [*, errW_none, errW_some] <;> rfl), by repeat (first | (with_reducible first | exact HB.out | apply below_alloc | apply pw_below_drewN | apply below_drew1) | exact HB.out)⟩
              · rw [if_neg c10] at H
                exact absurd H (by simp)
            · rw [if_neg c9] at H
              have c9b0 : decide (x7_1 < (a0.size : Int)) = false := decide_eq_false c9
              clear c9
              simp only [Option.some.injEq, Prod.mk.injEq] at H
              obtain ⟨rfl, rfl⟩ := H
              go_wp2
              go_ret2
              exact ⟨by first | rfl | (simp [errW_none, errW_some] <;> rfl) | (simp [*, errW_none, errW_some] <;> rfl), by repeat (first | (with_reducible first | exact HB.out | apply below_alloc | apply pw_below_drewN | apply below_drew1) | exact HB.out)⟩
      · replace c7 := Bool.eq_false_iff.mpr c7
        subst c7
        have H1 : (if (bt a0 a1) = 39 then ((triforiumref14_ident.f k a0 (wrap64 (a1 + 1))).bind fun t136 => (triforiumref14_plain.j1 k a0 a1 (bt a0 a1) (decide (t136 > (wrap64 (a1 + 1)))))) else (triforiumref14_plain.j1 k a0 a1 (bt a0 a1) false)) = some (r1, r2) := by rw [if_neg (show ¬ (false = true) by decide)] at H; exact H
        clear H
        have H := H1
        clear H1
        have HC16 := Aside0.mk H
        clear H
        have p5 : 0 ≤ (a1 : Int) := of_decide_eq_true (by first | (with_reducible assumption) | assumption)
        have q5 : a1 < (a0.size : Int) := of_decide_eq_true (by first | (with_reducible assumption) | assumption)
        have hx5 := bt_at a0 a1
        replace p5 := eq_true p5
        replace q5 := eq_true q5
        go_enter Tryz.func58, Tryz.ntmps58
        go_upto_region 9 with (first | ((with_reducible refine gate_callee (f := 59) rfl ?_); refine goesL_ (some 14) rfl rfl Tryz.func59 (by kernel_rfl) rfl #[.int .u8 (bt a0 a1)] rfl (by (try simp only [List.map_toArray, List.map_cons, List.map_nil]); first | done | rfl | (simp only [List.length_drop, List.length_take]; rfl)) ?_; (with_reducible refine (triforiumref14_letter.calls (bt a0 a1) false _ A6.out).mono ?_); rintro e w' ⟨rfl, ⟨nd, rfl⟩⟩; refine ⟨_, rfl, ?_⟩))
        (try simp only [Act.put, List.setIfInBounds_toArray, List.set_cons_zero, List.set_cons_succ])
        go_cut [43] (fun v43 wc => ∃ (kq : Nat) (x43_15 : Bool), v43 = .bool x43_15 ∧ Aside0 (triforiumref14_plain.j1 kq a0 a1 (bt a0 a1) x43_15 = some (r1, r2)) ∧ Aside0 (kq ≤ k) ∧ Aside0 (Below w.heap.size w wc))
        case first =>
          have H := HC16.out
          clear HC16
          by_cases c17 : (bt a0 a1) = 39
          · rw [if_pos c17] at H
            have c17b0 : ((bt a0 a1) == 39) = true := beq_iff_eq.mpr c17
            have c17b1 : ((bt a0 a1) != 39) = false := bne_eq_false_iff_eq.mpr c17
            clear c17
            (first | rw [c17b0] | (simp only [i64_w, i32_w]; rw [c17b0]) | skip)
            replace H := Option.bind_eq_some_iff.mp H
            obtain ⟨t136, A180, H⟩ := H
            replace H : (triforiumref14_plain.j1 k a0 a1 (bt a0 a1) (decide (t136 > (wrap64 (a1 + 1))))) = some (r1, r2) := H
            have A18 := Aside0.mk A180
            clear A180
            have H' := Aside0.mk H
            clear H
            go_wp2_with (first | (go_at_call 51; (with_reducible refine (triforiumref14_ident.calls k a0 (wrap64 (a1 + 1)) t136 _ A18.out).mono ?_); rintro e w' ⟨rfl, ⟨nd, rfl⟩⟩))
            go_meet
            case rel => exact ⟨_, (decide (t136 > (wrap64 (a1 + 1)))), (by first | rfl | (simp; done) | (simp [*]; done)), H', ⟨by first | omega | exact Nat.le_refl _⟩, ⟨by repeat (first | (with_reducible first | exact HB.out | apply below_alloc | apply pw_below_drewN | apply below_drew1) | exact HB.out)⟩⟩
          · rw [if_neg c17] at H
            have c17b0 : ((bt a0 a1) == 39) = false := beq_eq_false_iff_ne.mpr c17
            have c17b1 : ((bt a0 a1) != 39) = true := bne_iff_ne.mpr c17
            (first | rw [c17b0] | (simp only [i64_w, i32_w]; rw [c17b0]) | skip)
            have H' := Aside0.mk H
            clear H
            go_wp2
            go_meet
            case rel => exact ⟨_, (false), (by first | rfl | (simp; done) | (simp [*]; done)), H', ⟨by first | omega | exact Nat.le_refl _⟩, ⟨by repeat (first | (with_reducible first | exact HB.out | apply below_alloc | apply pw_below_drewN | apply below_drew1) | exact HB.out)⟩⟩
        case rest =>
          clear HC16
          try clear c1
          try clear p1
          try clear q1
          try clear hx1
          try clear p2
          try clear c3
          try clear c3b0
          try clear c4
          try clear c4b0
          try clear c5
          try clear p5
          try clear q5
          try clear hx5
          try clear p6
          try clear c7
          try clear c9
          try clear c9b0
          try clear c10
          try clear c10b0
          try clear p11
          try clear q11
          try clear hx11
          try clear c12
          try clear c12b0
          try clear c12b1
          try clear c14
          try clear c14b0
          try clear c17
          try clear c17b0
          try clear c17b1
          try clear p11
          try clear p2
          try clear p5
          try clear p6
          try clear q11
          try clear q5
          obtain ⟨kq, x43_15, rfl, HA, HJ15, HB⟩ := hcut
          cases kq with
          | zero => exact absurd HA.out (by simp [triforiumref14_plain.j1])
          | succ kj15 =>
            have H := HA.out
            clear HA
            simp only [triforiumref14_plain.j1] at H
            by_cases c19 : x43_15 = true
            · subst c19
              have H1 : ((triforiumref14_ident.f kj15 a0 (wrap64 (a1 + 1))).bind fun t137 => (some (3, t137))) = some (r1, r2) := by rw [if_pos rfl] at H; exact H
              clear H
              have H := H1
              clear H1
              replace H := Option.bind_eq_some_iff.mp H
              obtain ⟨t137, A200, H⟩ := H
              replace H : (some (3, t137)) = some (r1, r2) := H
              have A20 := Aside0.mk A200
              clear A200
              simp only [Option.some.injEq, Prod.mk.injEq] at H
              obtain ⟨rfl, rfl⟩ := H
              go_wp2_with (first | ((with_reducible refine gate_callee (f := 51) rfl ?_); refine goesL_ (some 58) rfl rfl Tryz.func51 (by kernel_rfl) rfl #[.string a0, .int .i64 (wrap64 (a1 + 1))] rfl (by (try simp only [List.map_toArray, List.map_cons, List.map_nil]); first | done | rfl | (simp only [List.length_drop, List.length_take]; rfl)) ?_; (with_reducible refine (triforiumref14_ident.calls kj15 a0 (wrap64 (a1 + 1)) t137 _ A20.out).mono ?_); rintro e w' ⟨rfl, ⟨nd, rfl⟩⟩; refine ⟨_, rfl, ?_⟩))
              go_ret2
              exact ⟨by first | rfl | (simp [errW_none, errW_some] <;> rfl) | (simp [*, errW_none, errW_some] <;> rfl), by repeat (first | (with_reducible first | exact HB.out | apply below_alloc | apply pw_below_drewN | apply below_drew1) | exact HB.out)⟩
            · replace c19 := Bool.eq_false_iff.mpr c19
              subst c19
              have H1 : (if (bt a0 a1) = 63 then ((triforiumref14_ident.f kj15 a0 (wrap64 (a1 + 1))).bind fun t138 => (triforiumref14_plain.j2 kj15 a0 a1 (bt a0 a1) (decide (t138 > (wrap64 (a1 + 1)))))) else (triforiumref14_plain.j2 kj15 a0 a1 (bt a0 a1) false)) = some (r1, r2) := by rw [if_neg (show ¬ (false = true) by decide)] at H; exact H
              clear H
              have H := H1
              clear H1
              have HC21 := Aside0.mk H
              clear H
              go_upto_region 11 with (fail)
              go_cut [59] (fun v59 wc => ∃ (kq : Nat) (x59_20 : Bool), v59 = .bool x59_20 ∧ Aside0 (triforiumref14_plain.j2 kq a0 a1 (bt a0 a1) x59_20 = some (r1, r2)) ∧ Aside0 (kq ≤ kj15) ∧ Aside0 (Below w.heap.size w wc))
              case first =>
                have H := HC21.out
                clear HC21
                by_cases c22 : (bt a0 a1) = 63
                · rw [if_pos c22] at H
                  have c22b0 : ((bt a0 a1) == 63) = true := beq_iff_eq.mpr c22
                  have c22b1 : ((bt a0 a1) != 63) = false := bne_eq_false_iff_eq.mpr c22
                  clear c22
                  (first | rw [c22b0] | (simp only [i64_w, i32_w]; rw [c22b0]) | skip)
                  replace H := Option.bind_eq_some_iff.mp H
                  obtain ⟨t138, A230, H⟩ := H
                  replace H : (triforiumref14_plain.j2 kj15 a0 a1 (bt a0 a1) (decide (t138 > (wrap64 (a1 + 1))))) = some (r1, r2) := H
                  have A23 := Aside0.mk A230
                  clear A230
                  have H' := Aside0.mk H
                  clear H
                  go_wp2_with (first | (go_at_call 51; (with_reducible refine (triforiumref14_ident.calls kj15 a0 (wrap64 (a1 + 1)) t138 _ A23.out).mono ?_); rintro e w' ⟨rfl, ⟨nd, rfl⟩⟩))
                  go_meet
                  case rel => exact ⟨_, (decide (t138 > (wrap64 (a1 + 1)))), (by first | rfl | (simp; done) | (simp [*]; done)), H', ⟨by have := HJ15.out; first | omega | exact Nat.le_refl _⟩, ⟨by repeat (first | (with_reducible first | exact HB.out | apply below_alloc | apply pw_below_drewN | apply below_drew1) | exact HB.out)⟩⟩
                · rw [if_neg c22] at H
                  have c22b0 : ((bt a0 a1) == 63) = false := beq_eq_false_iff_ne.mpr c22
                  have c22b1 : ((bt a0 a1) != 63) = true := bne_iff_ne.mpr c22
                  (first | rw [c22b0] | (simp only [i64_w, i32_w]; rw [c22b0]) | skip)
                  have H' := Aside0.mk H
                  clear H
                  go_wp2
                  go_meet
                  case rel => exact ⟨_, (false), (by first | rfl | (simp; done) | (simp [*]; done)), H', ⟨by have := HJ15.out; first | omega | exact Nat.le_refl _⟩, ⟨by repeat (first | (with_reducible first | exact HB.out | apply below_alloc | apply pw_below_drewN | apply below_drew1) | exact HB.out)⟩⟩
              case rest =>
                clear HC21
                try clear c1
                try clear p1
                try clear q1
                try clear hx1
                try clear c2
                try clear p2
                try clear c3
                try clear c3b0
                try clear c4
                try clear c4b0
                try clear c5
                try clear p5
                try clear q5
                try clear hx5
                try clear p6
                try clear c7
                try clear c9
                try clear c9b0
                try clear c10
                try clear c10b0
                try clear p11
                try clear q11
                try clear hx11
                try clear c12
                try clear c12b0
                try clear c12b1
                try clear c14
                try clear c14b0
                try clear c17
                try clear c17b0
                try clear c17b1
                try clear c19
                try clear c22
                try clear c22b0
                try clear c22b1
                try clear p1
                try clear p11
                try clear p2
                try clear p5
                try clear p6
                try clear q1
                try clear q11
                try clear q5
                obtain ⟨kq, x59_20, rfl, HA, HJ20, HB⟩ := hcut
                cases kq with
                | zero => exact absurd HA.out (by simp [triforiumref14_plain.j2])
                | succ kj20 =>
                  have H := HA.out
                  clear HA
                  simp only [triforiumref14_plain.j2] at H
                  by_cases c24 : x59_20 = true
                  · subst c24
                    have H1 : ((triforiumref14_ident.f kj20 a0 (wrap64 (a1 + 1))).bind fun t139 => ((triforiumref14_index.f kj20 a0 t139).bind fun t140 => (some (4, t140)))) = some (r1, r2) := by rw [if_pos rfl] at H; exact H
                    clear H
                    have H := H1
                    clear H1
                    replace H := Option.bind_eq_some_iff.mp H
                    obtain ⟨t139, A250, H⟩ := H
                    replace H : ((triforiumref14_index.f kj20 a0 t139).bind fun t140 => (some (4, t140))) = some (r1, r2) := H
                    have A25 := Aside0.mk A250
                    clear A250
                    replace H := Option.bind_eq_some_iff.mp H
                    obtain ⟨t140, A260, H⟩ := H
                    replace H : (some (4, t140)) = some (r1, r2) := H
                    have A26 := Aside0.mk A260
                    clear A260
                    simp only [Option.some.injEq, Prod.mk.injEq] at H
                    obtain ⟨rfl, rfl⟩ := H
                    go_wp2_with (first | ((with_reducible refine gate_callee (f := 51) rfl ?_); refine goesL_ (some 75) rfl rfl Tryz.func51 (by kernel_rfl) rfl #[.string a0, .int .i64 (wrap64 (a1 + 1))] rfl (by (try simp only [List.map_toArray, List.map_cons, List.map_nil]); first | done | rfl | (simp only [List.length_drop, List.length_take]; rfl)) ?_; (with_reducible refine (triforiumref14_ident.calls kj20 a0 (wrap64 (a1 + 1)) t139 _ A25.out).mono ?_); rintro e w' ⟨rfl, ⟨nd, rfl⟩⟩; refine ⟨_, rfl, ?_⟩) | ((with_reducible refine gate_callee (f := 76) rfl ?_); refine goesL_ (some 76) rfl rfl Tryz.func76 (by kernel_rfl) rfl #[.string a0, .int .i64 t139] rfl (by (try simp only [List.map_toArray, List.map_cons, List.map_nil]); first | done | rfl | (simp only [List.length_drop, List.length_take]; rfl)) ?_; (with_reducible refine (triforiumref14_index.calls kj20 a0 t139 t140 _ A26.out).mono ?_); rintro e w27 ⟨rfl, hb⟩; refine ⟨_, rfl, ?_⟩; have n0_ := Aside0.mk (below_step (by repeat (first | (with_reducible first | exact HB.out | apply below_alloc | apply pw_below_drewN | apply below_drew1) | exact HB.out)) hb); clear HB; have HB := n0_; clear n0_; (try clear hb); (try clear hb2); (try clear hk); (try clear hi)))
                    go_ret2
                    exact ⟨by first | rfl | (simp [errW_none, errW_some] <;> rfl) | (simp [*, errW_none, errW_some] <;> rfl), by repeat (first | (with_reducible first | exact HB.out | apply below_alloc | apply pw_below_drewN | apply below_drew1) | exact HB.out)⟩
                  · replace c24 := Bool.eq_false_iff.mpr c24
                    subst c24
                    have H1 : ((triforiumref14_starts.f a0 a1 (⟨#[63, 39]⟩ : ByteArray)).bind fun t141 => (if t141 = true then ((triforiumref14_ident.f kj20 a0 (wrap64 (a1 + 2))).bind fun t142 => (triforiumref14_plain.j3 kj20 a0 a1 (bt a0 a1) (decide (t142 > (wrap64 (a1 + 2)))))) else (triforiumref14_plain.j3 kj20 a0 a1 (bt a0 a1) false))) = some (r1, r2) := by rw [if_neg (show ¬ (false = true) by decide)] at H; exact H
                    clear H
                    have H := H1
                    clear H1
                    have HC28 := Aside0.mk H
                    clear H
                    go_upto_region 13 with (fail)
                    go_cut [77] (fun v77 wc => ∃ (kq : Nat) (x77_27 : Bool), v77 = .bool x77_27 ∧ Aside0 (triforiumref14_plain.j3 kq a0 a1 (bt a0 a1) x77_27 = some (r1, r2)) ∧ Aside0 (kq ≤ kj20) ∧ Aside0 (Below w.heap.size w wc))
                    case first =>
                      have H := HC28.out
                      clear HC28
                      replace H := Option.bind_eq_some_iff.mp H
                      obtain ⟨t141, A290, H⟩ := H
                      replace H : (if t141 = true then ((triforiumref14_ident.f kj20 a0 (wrap64 (a1 + 2))).bind fun t142 => (triforiumref14_plain.j3 kj20 a0 a1 (bt a0 a1) (decide (t142 > (wrap64 (a1 + 2)))))) else (triforiumref14_plain.j3 kj20 a0 a1 (bt a0 a1) false)) = some (r1, r2) := H
                      have A29 := Aside0.mk A290
                      clear A290
                      by_cases c30 : t141 = true
                      · subst c30
                        have H1 : ((triforiumref14_ident.f kj20 a0 (wrap64 (a1 + 2))).bind fun t142 => (triforiumref14_plain.j3 kj20 a0 a1 (bt a0 a1) (decide (t142 > (wrap64 (a1 + 2)))))) = some (r1, r2) := by rw [if_pos rfl] at H; exact H
                        clear H
                        have H := H1
                        clear H1
                        replace H := Option.bind_eq_some_iff.mp H
                        obtain ⟨t142, A310, H⟩ := H
                        replace H : (triforiumref14_plain.j3 kj20 a0 a1 (bt a0 a1) (decide (t142 > (wrap64 (a1 + 2))))) = some (r1, r2) := H
                        have A31 := Aside0.mk A310
                        clear A310
                        have H' := Aside0.mk H
                        clear H
                        go_wp2_with (first | ((with_reducible refine gate_callee (f := 55) rfl ?_); refine goesL_ (some 80) rfl rfl Tryz.func55 (by kernel_rfl) rfl #[.string a0, .int .i64 a1, .string (⟨#[63, 39]⟩ : ByteArray)] rfl (by (try simp only [List.map_toArray, List.map_cons, List.map_nil]); first | done | rfl | (simp only [List.length_drop, List.length_take]; rfl)) ?_; (with_reducible refine (triforiumref14_starts.calls a0 a1 (⟨#[63, 39]⟩ : ByteArray) true _ A29.out).mono ?_); rintro e w' ⟨rfl, ⟨nd, rfl⟩⟩; refine ⟨_, rfl, ?_⟩) | (go_at_call 51; (with_reducible refine (triforiumref14_ident.calls kj20 a0 (wrap64 (a1 + 2)) t142 _ A31.out).mono ?_); rintro e w' ⟨rfl, ⟨nd, rfl⟩⟩))
                        go_meet
                        case rel => exact ⟨_, (decide (t142 > (wrap64 (a1 + 2)))), (by first | rfl | (simp; done) | (simp [*]; done)), H', ⟨by have := HJ15.out; have := HJ20.out; first | omega | exact Nat.le_refl _⟩, ⟨by repeat (first | (with_reducible first | exact HB.out | apply below_alloc | apply pw_below_drewN | apply below_drew1) | exact HB.out)⟩⟩
                      · replace c30 := Bool.eq_false_iff.mpr c30
                        subst c30
                        have H1 : (triforiumref14_plain.j3 kj20 a0 a1 (bt a0 a1) false) = some (r1, r2) := by rw [if_neg (show ¬ (false = true) by decide)] at H; exact H
                        clear H
                        have H := H1
                        clear H1
                        have H' := Aside0.mk H
                        clear H
                        go_wp2_with (first | ((with_reducible refine gate_callee (f := 55) rfl ?_); refine goesL_ (some 80) rfl rfl Tryz.func55 (by kernel_rfl) rfl #[.string a0, .int .i64 a1, .string (⟨#[63, 39]⟩ : ByteArray)] rfl (by (try simp only [List.map_toArray, List.map_cons, List.map_nil]); first | done | rfl | (simp only [List.length_drop, List.length_take]; rfl)) ?_; (with_reducible refine (triforiumref14_starts.calls a0 a1 (⟨#[63, 39]⟩ : ByteArray) false _ A29.out).mono ?_); rintro e w' ⟨rfl, ⟨nd, rfl⟩⟩; refine ⟨_, rfl, ?_⟩))
                        go_meet
                        case rel => exact ⟨_, (false), (by first | rfl | (simp; done) | (simp [*]; done)), H', ⟨by have := HJ15.out; have := HJ20.out; first | omega | exact Nat.le_refl _⟩, ⟨by repeat (first | (with_reducible first | exact HB.out | apply below_alloc | apply pw_below_drewN | apply below_drew1) | exact HB.out)⟩⟩
                    case rest =>
                      clear HC28
                      try clear c1
                      try clear p1
                      try clear q1
                      try clear hx1
                      try clear c2
                      try clear p2
                      try clear c3
                      try clear c3b0
                      try clear c4
                      try clear c4b0
                      try clear c5
                      try clear p5
                      try clear q5
                      try clear hx5
                      try clear p6
                      try clear c7
                      try clear c9
                      try clear c9b0
                      try clear c10
                      try clear c10b0
                      try clear p11
                      try clear q11
                      try clear hx11
                      try clear c12
                      try clear c12b0
                      try clear c12b1
                      try clear c14
                      try clear c14b0
                      try clear c17
                      try clear c17b0
                      try clear c17b1
                      try clear c19
                      try clear c22
                      try clear c22b0
                      try clear c22b1
                      try clear c24
                      try clear c30
                      try clear p1
                      try clear p11
                      try clear p2
                      try clear p5
                      try clear p6
                      try clear q1
                      try clear q11
                      try clear q5
                      obtain ⟨kq, x77_27, rfl, HA, HJ27, HB⟩ := hcut
                      cases kq with
                      | zero => exact absurd HA.out (by simp [triforiumref14_plain.j3])
                      | succ kj27 =>
                        have H := HA.out
                        clear HA
                        simp only [triforiumref14_plain.j3] at H
                        by_cases c32 : x77_27 = true
                        · subst c32
                          have H1 : ((triforiumref14_ident.f kj27 a0 (wrap64 (a1 + 2))).bind fun t143 => ((triforiumref14_index.f kj27 a0 t143).bind fun t144 => (some (5, t144)))) = some (r1, r2) := by rw [if_pos rfl] at H; exact H
                          clear H
                          have H := H1
                          clear H1
                          replace H := Option.bind_eq_some_iff.mp H
                          obtain ⟨t143, A330, H⟩ := H
                          replace H : ((triforiumref14_index.f kj27 a0 t143).bind fun t144 => (some (5, t144))) = some (r1, r2) := H
                          have A33 := Aside0.mk A330
                          clear A330
                          replace H := Option.bind_eq_some_iff.mp H
                          obtain ⟨t144, A340, H⟩ := H
                          replace H : (some (5, t144)) = some (r1, r2) := H
                          have A34 := Aside0.mk A340
                          clear A340
                          simp only [Option.some.injEq, Prod.mk.injEq] at H
                          obtain ⟨rfl, rfl⟩ := H
                          go_wp2_with (first | ((with_reducible refine gate_callee (f := 51) rfl ?_); refine goesL_ (some 94) rfl rfl Tryz.func51 (by kernel_rfl) rfl #[.string a0, .int .i64 (wrap64 (a1 + 2))] rfl (by (try simp only [List.map_toArray, List.map_cons, List.map_nil]); first | done | rfl | (simp only [List.length_drop, List.length_take]; rfl)) ?_; (with_reducible refine (triforiumref14_ident.calls kj27 a0 (wrap64 (a1 + 2)) t143 _ A33.out).mono ?_); rintro e w' ⟨rfl, ⟨nd, rfl⟩⟩; refine ⟨_, rfl, ?_⟩) | ((with_reducible refine gate_callee (f := 76) rfl ?_); refine goesL_ (some 95) rfl rfl Tryz.func76 (by kernel_rfl) rfl #[.string a0, .int .i64 t143] rfl (by (try simp only [List.map_toArray, List.map_cons, List.map_nil]); first | done | rfl | (simp only [List.length_drop, List.length_take]; rfl)) ?_; (with_reducible refine (triforiumref14_index.calls kj27 a0 t143 t144 _ A34.out).mono ?_); rintro e w35 ⟨rfl, hb⟩; refine ⟨_, rfl, ?_⟩; have n0_ := Aside0.mk (below_step (by repeat (first | (with_reducible first | exact HB.out | apply below_alloc | apply pw_below_drewN | apply below_drew1) | exact HB.out)) hb); clear HB; have HB := n0_; clear n0_; (try clear hb); (try clear hb2); (try clear hk); (try clear hi)))
                          go_ret2
                          exact ⟨by first | rfl | (simp [errW_none, errW_some] <;> rfl) | (simp [*, errW_none, errW_some] <;> rfl), by repeat (first | (with_reducible first | exact HB.out | apply below_alloc | apply pw_below_drewN | apply below_drew1) | exact HB.out)⟩
                        · replace c32 := Bool.eq_false_iff.mpr c32
                          subst c32
                          have H1 : ((triforiumref14_digit.f (bt a0 a1)).bind fun t145 => (if t145 = true then ((triforiumref14_run.f kj27 a0 a1 (⟨#[48, 49, 50, 51, 52, 53, 54, 55, 56, 57]⟩ : ByteArray)).bind fun t146 => (some (6, t146))) else ((triforiumref14_has.f kj27 (⟨#[33, 35, 36, 37, 38, 42, 43, 45, 47, 58, 60, 61, 62, 64, 94, 124, 126]⟩ : ByteArray) (bt a0 a1)).bind fun t147 => (if t147 = true then ((triforiumref14_run.f kj27 a0 a1 (⟨#[33, 35, 36, 37, 38, 42, 43, 45, 47, 58, 60, 61, 62, 64, 94, 124, 126]⟩ : ByteArray)).bind fun t148 => (some (7, t148))) else ((triforiumref14_has.f kj27 (⟨#[40, 41, 91, 93, 123, 125, 44, 59, 46]⟩ : ByteArray) (bt a0 a1)).bind fun t149 => (if t149 = true then (some (7, wrap64 (a1 + 1))) else ((triforiumref14_named.f kj27 a0 a1).bind fun t150 => (some (7, t150))))))))) = some (r1, r2) := by rw [if_neg (show ¬ (false = true) by decide)] at H; exact H
                          clear H
                          have H := H1
                          clear H1
                          replace H := Option.bind_eq_some_iff.mp H
                          obtain ⟨t145, A360, H⟩ := H
                          replace H : (if t145 = true then ((triforiumref14_run.f kj27 a0 a1 (⟨#[48, 49, 50, 51, 52, 53, 54, 55, 56, 57]⟩ : ByteArray)).bind fun t146 => (some (6, t146))) else ((triforiumref14_has.f kj27 (⟨#[33, 35, 36, 37, 38, 42, 43, 45, 47, 58, 60, 61, 62, 64, 94, 124, 126]⟩ : ByteArray) (bt a0 a1)).bind fun t147 => (if t147 = true then ((triforiumref14_run.f kj27 a0 a1 (⟨#[33, 35, 36, 37, 38, 42, 43, 45, 47, 58, 60, 61, 62, 64, 94, 124, 126]⟩ : ByteArray)).bind fun t148 => (some (7, t148))) else ((triforiumref14_has.f kj27 (⟨#[40, 41, 91, 93, 123, 125, 44, 59, 46]⟩ : ByteArray) (bt a0 a1)).bind fun t149 => (if t149 = true then (some (7, wrap64 (a1 + 1))) else ((triforiumref14_named.f kj27 a0 a1).bind fun t150 => (some (7, t150)))))))) = some (r1, r2) := H
                          have A36 := Aside0.mk A360
                          clear A360
                          by_cases c37 : t145 = true
                          · subst c37
                            have H1 : ((triforiumref14_run.f kj27 a0 a1 (⟨#[48, 49, 50, 51, 52, 53, 54, 55, 56, 57]⟩ : ByteArray)).bind fun t146 => (some (6, t146))) = some (r1, r2) := by rw [if_pos rfl] at H; exact H
                            clear H
                            have H := H1
                            clear H1
                            replace H := Option.bind_eq_some_iff.mp H
                            obtain ⟨t146, A380, H⟩ := H
                            replace H : (some (6, t146)) = some (r1, r2) := H
                            have A38 := Aside0.mk A380
                            clear A380
                            simp only [Option.some.injEq, Prod.mk.injEq] at H
                            obtain ⟨rfl, rfl⟩ := H
                            go_wp2_with (first | ((with_reducible refine gate_callee (f := 75) rfl ?_); refine goesL_ (some 98) rfl rfl Tryz.func75 (by kernel_rfl) rfl #[.int .u8 (bt a0 a1)] rfl (by (try simp only [List.map_toArray, List.map_cons, List.map_nil]); first | done | rfl | (simp only [List.length_drop, List.length_take]; rfl)) ?_; (with_reducible refine (triforiumref14_digit.calls (bt a0 a1) true _ A36.out).mono ?_); rintro e w' ⟨rfl, ⟨nd, rfl⟩⟩; refine ⟨_, rfl, ?_⟩) | ((with_reducible refine gate_callee (f := 52) rfl ?_); refine goesL_ (some 101) rfl rfl Tryz.func52 (by kernel_rfl) rfl #[.string a0, .int .i64 a1, .string (⟨#[48, 49, 50, 51, 52, 53, 54, 55, 56, 57]⟩ : ByteArray)] rfl (by (try simp only [List.map_toArray, List.map_cons, List.map_nil]); first | done | rfl | (simp only [List.length_drop, List.length_take]; rfl)) ?_; (with_reducible refine (triforiumref14_run.calls kj27 a0 a1 (⟨#[48, 49, 50, 51, 52, 53, 54, 55, 56, 57]⟩ : ByteArray) t146 _ A38.out).mono ?_); rintro e w' ⟨rfl, ⟨nd, rfl⟩⟩; refine ⟨_, rfl, ?_⟩))
                            go_ret2
                            exact ⟨by first | rfl | (simp [errW_none, errW_some] <;> rfl) | (simp [*, errW_none, errW_some] <;> rfl), by repeat (first | (with_reducible first | exact HB.out | apply below_alloc | apply pw_below_drewN | apply below_drew1) | exact HB.out)⟩
                          · replace c37 := Bool.eq_false_iff.mpr c37
                            subst c37
                            have H1 : ((triforiumref14_has.f kj27 (⟨#[33, 35, 36, 37, 38, 42, 43, 45, 47, 58, 60, 61, 62, 64, 94, 124, 126]⟩ : ByteArray) (bt a0 a1)).bind fun t147 => (if t147 = true then ((triforiumref14_run.f kj27 a0 a1 (⟨#[33, 35, 36, 37, 38, 42, 43, 45, 47, 58, 60, 61, 62, 64, 94, 124, 126]⟩ : ByteArray)).bind fun t148 => (some (7, t148))) else ((triforiumref14_has.f kj27 (⟨#[40, 41, 91, 93, 123, 125, 44, 59, 46]⟩ : ByteArray) (bt a0 a1)).bind fun t149 => (if t149 = true then (some (7, wrap64 (a1 + 1))) else ((triforiumref14_named.f kj27 a0 a1).bind fun t150 => (some (7, t150))))))) = some (r1, r2) := by rw [if_neg (show ¬ (false = true) by decide)] at H; exact H
                            clear H
                            have H := H1
                            clear H1
                            replace H := Option.bind_eq_some_iff.mp H
                            obtain ⟨t147, A390, H⟩ := H
                            replace H : (if t147 = true then ((triforiumref14_run.f kj27 a0 a1 (⟨#[33, 35, 36, 37, 38, 42, 43, 45, 47, 58, 60, 61, 62, 64, 94, 124, 126]⟩ : ByteArray)).bind fun t148 => (some (7, t148))) else ((triforiumref14_has.f kj27 (⟨#[40, 41, 91, 93, 123, 125, 44, 59, 46]⟩ : ByteArray) (bt a0 a1)).bind fun t149 => (if t149 = true then (some (7, wrap64 (a1 + 1))) else ((triforiumref14_named.f kj27 a0 a1).bind fun t150 => (some (7, t150)))))) = some (r1, r2) := H
                            have A39 := Aside0.mk A390
                            clear A390
                            by_cases c40 : t147 = true
                            · subst c40
                              have H1 : ((triforiumref14_run.f kj27 a0 a1 (⟨#[33, 35, 36, 37, 38, 42, 43, 45, 47, 58, 60, 61, 62, 64, 94, 124, 126]⟩ : ByteArray)).bind fun t148 => (some (7, t148))) = some (r1, r2) := by rw [if_pos rfl] at H; exact H
                              clear H
                              have H := H1
                              clear H1
                              replace H := Option.bind_eq_some_iff.mp H
                              obtain ⟨t148, A410, H⟩ := H
                              replace H : (some (7, t148)) = some (r1, r2) := H
                              have A41 := Aside0.mk A410
                              clear A410
                              simp only [Option.some.injEq, Prod.mk.injEq] at H
                              obtain ⟨rfl, rfl⟩ := H
                              go_wp2_with (first | ((with_reducible refine gate_callee (f := 75) rfl ?_); refine goesL_ (some 98) rfl rfl Tryz.func75 (by kernel_rfl) rfl #[.int .u8 (bt a0 a1)] rfl (by (try simp only [List.map_toArray, List.map_cons, List.map_nil]); first | done | rfl | (simp only [List.length_drop, List.length_take]; rfl)) ?_; (with_reducible refine (triforiumref14_digit.calls (bt a0 a1) false _ A36.out).mono ?_); rintro e w' ⟨rfl, ⟨nd, rfl⟩⟩; refine ⟨_, rfl, ?_⟩) | ((with_reducible refine gate_callee (f := 53) rfl ?_); refine goesL_ (some 104) rfl rfl Tryz.func53 (by kernel_rfl) rfl #[.string (⟨#[33, 35, 36, 37, 38, 42, 43, 45, 47, 58, 60, 61, 62, 64, 94, 124, 126]⟩ : ByteArray), .int .u8 (bt a0 a1)] rfl (by (try simp only [List.map_toArray, List.map_cons, List.map_nil]); first | done | rfl | (simp only [List.length_drop, List.length_take]; rfl)) ?_; (with_reducible refine (triforiumref14_has.calls kj27 (⟨#[33, 35, 36, 37, 38, 42, 43, 45, 47, 58, 60, 61, 62, 64, 94, 124, 126]⟩ : ByteArray) (bt a0 a1) true _ A39.out).mono ?_); rintro e w' ⟨rfl, ⟨nd, rfl⟩⟩; refine ⟨_, rfl, ?_⟩) | ((with_reducible refine gate_callee (f := 52) rfl ?_); refine goesL_ (some 107) rfl rfl Tryz.func52 (by kernel_rfl) rfl #[.string a0, .int .i64 a1, .string (⟨#[33, 35, 36, 37, 38, 42, 43, 45, 47, 58, 60, 61, 62, 64, 94, 124, 126]⟩ : ByteArray)] rfl (by (try simp only [List.map_toArray, List.map_cons, List.map_nil]); first | done | rfl | (simp only [List.length_drop, List.length_take]; rfl)) ?_; (with_reducible refine (triforiumref14_run.calls kj27 a0 a1 (⟨#[33, 35, 36, 37, 38, 42, 43, 45, 47, 58, 60, 61, 62, 64, 94, 124, 126]⟩ : ByteArray) t148 _ A41.out).mono ?_); rintro e w' ⟨rfl, ⟨nd, rfl⟩⟩; refine ⟨_, rfl, ?_⟩))
                              go_ret2
                              exact ⟨by first | rfl | (simp [errW_none, errW_some] <;> rfl) | (simp [*, errW_none, errW_some] <;> rfl), by repeat (first | (with_reducible first | exact HB.out | apply below_alloc | apply pw_below_drewN | apply below_drew1) | exact HB.out)⟩
                            · replace c40 := Bool.eq_false_iff.mpr c40
                              subst c40
                              have H1 : ((triforiumref14_has.f kj27 (⟨#[40, 41, 91, 93, 123, 125, 44, 59, 46]⟩ : ByteArray) (bt a0 a1)).bind fun t149 => (if t149 = true then (some (7, wrap64 (a1 + 1))) else ((triforiumref14_named.f kj27 a0 a1).bind fun t150 => (some (7, t150))))) = some (r1, r2) := by rw [if_neg (show ¬ (false = true) by decide)] at H; exact H
                              clear H
                              have H := H1
                              clear H1
                              replace H := Option.bind_eq_some_iff.mp H
                              obtain ⟨t149, A420, H⟩ := H
                              replace H : (if t149 = true then (some (7, wrap64 (a1 + 1))) else ((triforiumref14_named.f kj27 a0 a1).bind fun t150 => (some (7, t150)))) = some (r1, r2) := H
                              have A42 := Aside0.mk A420
                              clear A420
                              by_cases c43 : t149 = true
                              · subst c43
                                have H1 : (some (7, wrap64 (a1 + 1))) = some (r1, r2) := by rw [if_pos rfl] at H; exact H
                                clear H
                                have H := H1
                                clear H1
                                simp only [Option.some.injEq, Prod.mk.injEq] at H
                                obtain ⟨rfl, rfl⟩ := H
                                go_wp2_with (first | ((with_reducible refine gate_callee (f := 75) rfl ?_); refine goesL_ (some 98) rfl rfl Tryz.func75 (by kernel_rfl) rfl #[.int .u8 (bt a0 a1)] rfl (by (try simp only [List.map_toArray, List.map_cons, List.map_nil]); first | done | rfl | (simp only [List.length_drop, List.length_take]; rfl)) ?_; (with_reducible refine (triforiumref14_digit.calls (bt a0 a1) false _ A36.out).mono ?_); rintro e w' ⟨rfl, ⟨nd, rfl⟩⟩; refine ⟨_, rfl, ?_⟩) | ((with_reducible refine gate_callee (f := 53) rfl ?_); refine goesL_ (some 104) rfl rfl Tryz.func53 (by kernel_rfl) rfl #[.string (⟨#[33, 35, 36, 37, 38, 42, 43, 45, 47, 58, 60, 61, 62, 64, 94, 124, 126]⟩ : ByteArray), .int .u8 (bt a0 a1)] rfl (by (try simp only [List.map_toArray, List.map_cons, List.map_nil]); first | done | rfl | (simp only [List.length_drop, List.length_take]; rfl)) ?_; (with_reducible refine (triforiumref14_has.calls kj27 (⟨#[33, 35, 36, 37, 38, 42, 43, 45, 47, 58, 60, 61, 62, 64, 94, 124, 126]⟩ : ByteArray) (bt a0 a1) false _ A39.out).mono ?_); rintro e w' ⟨rfl, ⟨nd, rfl⟩⟩; refine ⟨_, rfl, ?_⟩) | ((with_reducible refine gate_callee (f := 53) rfl ?_); refine goesL_ (some 110) rfl rfl Tryz.func53 (by kernel_rfl) rfl #[.string (⟨#[40, 41, 91, 93, 123, 125, 44, 59, 46]⟩ : ByteArray), .int .u8 (bt a0 a1)] rfl (by (try simp only [List.map_toArray, List.map_cons, List.map_nil]); first | done | rfl | (simp only [List.length_drop, List.length_take]; rfl)) ?_; (with_reducible refine (triforiumref14_has.calls kj27 (⟨#[40, 41, 91, 93, 123, 125, 44, 59, 46]⟩ : ByteArray) (bt a0 a1) true _ A42.out).mono ?_); rintro e w' ⟨rfl, ⟨nd, rfl⟩⟩; refine ⟨_, rfl, ?_⟩))
                                go_ret2
                                exact ⟨by first | rfl | (simp [errW_none, errW_some] <;> rfl) | (simp [*, errW_none, errW_some] <;> rfl), by repeat (first | (with_reducible first | exact HB.out | apply below_alloc | apply pw_below_drewN | apply below_drew1) | exact HB.out)⟩
                              · replace c43 := Bool.eq_false_iff.mpr c43
                                subst c43
                                have H1 : ((triforiumref14_named.f kj27 a0 a1).bind fun t150 => (some (7, t150))) = some (r1, r2) := by rw [if_neg (show ¬ (false = true) by decide)] at H; exact H
                                clear H
                                have H := H1
                                clear H1
                                replace H := Option.bind_eq_some_iff.mp H
                                obtain ⟨t150, A440, H⟩ := H
                                replace H : (some (7, t150)) = some (r1, r2) := H
                                have A44 := Aside0.mk A440
                                clear A440
                                simp only [Option.some.injEq, Prod.mk.injEq] at H
                                obtain ⟨rfl, rfl⟩ := H
                                go_wp2_with (first | ((with_reducible refine gate_callee (f := 75) rfl ?_); refine goesL_ (some 98) rfl rfl Tryz.func75 (by kernel_rfl) rfl #[.int .u8 (bt a0 a1)] rfl (by (try simp only [List.map_toArray, List.map_cons, List.map_nil]); first | done | rfl | (simp only [List.length_drop, List.length_take]; rfl)) ?_; (with_reducible refine (triforiumref14_digit.calls (bt a0 a1) false _ A36.out).mono ?_); rintro e w' ⟨rfl, ⟨nd, rfl⟩⟩; refine ⟨_, rfl, ?_⟩) | ((with_reducible refine gate_callee (f := 53) rfl ?_); refine goesL_ (some 104) rfl rfl Tryz.func53 (by kernel_rfl) rfl #[.string (⟨#[33, 35, 36, 37, 38, 42, 43, 45, 47, 58, 60, 61, 62, 64, 94, 124, 126]⟩ : ByteArray), .int .u8 (bt a0 a1)] rfl (by (try simp only [List.map_toArray, List.map_cons, List.map_nil]); first | done | rfl | (simp only [List.length_drop, List.length_take]; rfl)) ?_; (with_reducible refine (triforiumref14_has.calls kj27 (⟨#[33, 35, 36, 37, 38, 42, 43, 45, 47, 58, 60, 61, 62, 64, 94, 124, 126]⟩ : ByteArray) (bt a0 a1) false _ A39.out).mono ?_); rintro e w' ⟨rfl, ⟨nd, rfl⟩⟩; refine ⟨_, rfl, ?_⟩) | ((with_reducible refine gate_callee (f := 53) rfl ?_); refine goesL_ (some 110) rfl rfl Tryz.func53 (by kernel_rfl) rfl #[.string (⟨#[40, 41, 91, 93, 123, 125, 44, 59, 46]⟩ : ByteArray), .int .u8 (bt a0 a1)] rfl (by (try simp only [List.map_toArray, List.map_cons, List.map_nil]); first | done | rfl | (simp only [List.length_drop, List.length_take]; rfl)) ?_; (with_reducible refine (triforiumref14_has.calls kj27 (⟨#[40, 41, 91, 93, 123, 125, 44, 59, 46]⟩ : ByteArray) (bt a0 a1) false _ A42.out).mono ?_); rintro e w' ⟨rfl, ⟨nd, rfl⟩⟩; refine ⟨_, rfl, ?_⟩) | ((with_reducible refine gate_callee (f := 54) rfl ?_); refine goesL_ (some 115) rfl rfl Tryz.func54 (by kernel_rfl) rfl #[.string a0, .int .i64 a1] rfl (by (try simp only [List.map_toArray, List.map_cons, List.map_nil]); first | done | rfl | (simp only [List.length_drop, List.length_take]; rfl)) ?_; (with_reducible refine (triforiumref14_named.calls kj27 a0 a1 t150 _ A44.out).mono ?_); rintro e w' ⟨rfl, ⟨nd, rfl⟩⟩; refine ⟨_, rfl, ?_⟩))
                                go_ret2
                                exact ⟨by first | rfl | (simp [errW_none, errW_some] <;> rfl) | (simp [*, errW_none, errW_some] <;> rfl), by repeat (first | (with_reducible first | exact HB.out | apply below_alloc | apply pw_below_drewN | apply below_drew1) | exact HB.out)⟩
    · rw [if_neg c4] at H
      exact absurd H (by simp)
  · rw [if_neg c3] at H
    exact absurd H (by simp)

end Go.Proofs.YtmkfeanggmjhmaaGreat.PTokenWrites
