-- PRINTED BY print.sh 35421559b90ae4d0a3588c463048766b98c2df88dd9212a6774a882060cdf62d: not written by this session
import Derived.Test.YtmkfeanggmjhmaaGreatPTokenWritesx0
import Derived.Test.YtmkfeanggmjhmaaGreatPTokenWritesx2
import Derived.Test.YtmkfeanggmjhmaaGreatPTokenWritesx3
import Derived.Test.YtmkfeanggmjhmaaGreatPTokenWritesx6
import Derived.Test.YtmkfeanggmjhmaaGreatPTokenWritesx7
namespace Go.Proofs.YtmkfeanggmjhmaaGreat.PTokenWrites
open Go.RowKit Go.Proofs.YtmkfeanggmjhmaaGreatW.PrintWords Go.Proofs.YtmkfeanggmjhmaaGreatW.PrintLast Go.Proofs.YtmkfeanggmjhmaaGreatW.PrintMore
attribute [local go_sem] max2_int min2_int max_two min_two max_three min_three max_four min_four   -- for this text's walks alone
set_option linter.unusedVariables false
set_option linter.unusedSimpArgs false

/-! ### triforiumref14_Join: function 15 -/
mutual
def triforiumref14_Join.l0 : Nat → List ByteArray → List (S37) → Int → Option (ByteArray × Int)
  | 0, _, _, _ => none
  | k + 1, x0, x1, x7 => if x7 < (x1.length : Int) then (if 0 ≤ x7 then ((triforiumref14_Write.f k x0 ((rd_T37 x1 x7).f0) ((rd_T37 x1 x7).f1) ((rd_T37 x1 x7).f2)).bind fun bt214 => (if bt214.2 = 0 then (triforiumref14_Join.l0 k x0 x1 (wrap64 (x7 + 1))) else (some ((⟨#[]⟩ : ByteArray), bt214.2)))) else (none)) else (triforiumref14_Join.l1 k x0 x1 (⟨#[]⟩ : ByteArray) 0)
def triforiumref14_Join.l1 : Nat → List ByteArray → List (S37) → ByteArray → Int → Option (ByteArray × Int)
  | 0, _, _, _, _ => none
  | k + 1, x0, x1, x10, x11 => if x11 < (x1.length : Int) then (if 0 ≤ x11 then ((triforiumref14_spelled.f k ((rd_T37 x1 x11).f0) ((rd_T37 x1 x11).f1) ((rd_T37 x1 x11).f2)).bind fun t217 => (if x10.size + t217.size ≤ 9223372036854775807 then ((triforiumref14_Scan.f k x0 (x10 ++ t217)).bind fun bt218 => (if bt218.2.2 = 0 then (if 0 ≤ (wrap64 (x11 + 1)) then (if (wrap64 (x11 + 1)) ≤ (x1.length : Int) then ((triforiumref14_same.f k bt218.1 (x1.take ((wrap64 (x11 + 1)) : Int).toNat)).bind fun t227 => (triforiumref14_Join.j2 k x0 x1 x10 x11 (!t227))) else (none)) else (none)) else (triforiumref14_Join.j2 k x0 x1 x10 x11 true))) else (none))) else (none)) else (some (x10, 0))
def triforiumref14_Join.j2 : Nat → List ByteArray → List (S37) → ByteArray → Int → Bool → Option (ByteArray × Int)
  | 0, _, _, _, _, _ => none
  | k + 1, x0, x1, x10, x11, x70 => if x70 = true then (if x10.size + 1 ≤ 9223372036854775807 then (if 0 ≤ x11 then (if x11 < (x1.length : Int) then ((triforiumref14_spelled.f k ((rd_T37 x1 x11).f0) ((rd_T37 x1 x11).f1) ((rd_T37 x1 x11).f2)).bind fun t229 => (if (x10 ++ (⟨#[32]⟩ : ByteArray)).size + t229.size ≤ 9223372036854775807 then (if (((x10 ++ (⟨#[32]⟩ : ByteArray)) ++ t229).size : Int) > 40000 then (some ((⟨#[]⟩ : ByteArray), 7)) else (triforiumref14_Join.l1 k x0 x1 ((x10 ++ (⟨#[32]⟩ : ByteArray)) ++ t229) (wrap64 (x11 + 1)))) else (none))) else (none)) else (none)) else (none)) else (if 0 ≤ x11 then (if x11 < (x1.length : Int) then ((triforiumref14_spelled.f k ((rd_T37 x1 x11).f0) ((rd_T37 x1 x11).f1) ((rd_T37 x1 x11).f2)).bind fun t231 => (if x10.size + t231.size ≤ 9223372036854775807 then (if ((x10 ++ t231).size : Int) > 40000 then (some ((⟨#[]⟩ : ByteArray), 7)) else (triforiumref14_Join.l1 k x0 x1 (x10 ++ t231) (wrap64 (x11 + 1)))) else (none))) else (none)) else (none))
end
def triforiumref14_Join.f (k : Nat) (l0 : List ByteArray) (l1 : List (S37)) : Option (ByteArray × Int) := (triforiumref14_Check.f k l0).bind fun t212 => (if t212 = 0 then (if (l1.length : Int) > 1000 then (some ((⟨#[]⟩ : ByteArray), 5)) else (triforiumref14_Join.l0 k l0 l1 0)) else (some ((⟨#[]⟩ : ByteArray), t212)))
theorem triforiumref14_Join.mono_l : ∀ k, (∀ y0 y1 y2, LeO (triforiumref14_Join.l0 k y0 y1 y2) (triforiumref14_Join.l0 (k + 1) y0 y1 y2)) ∧ (∀ y0 y1 y2 y3, LeO (triforiumref14_Join.l1 k y0 y1 y2 y3) (triforiumref14_Join.l1 (k + 1) y0 y1 y2 y3)) ∧ (∀ y0 y1 y2 y3 y4, LeO (triforiumref14_Join.j2 k y0 y1 y2 y3 y4) (triforiumref14_Join.j2 (k + 1) y0 y1 y2 y3 y4))
  | 0 => ⟨fun _ _ _ r h => by simp [triforiumref14_Join.l0] at h, fun _ _ _ _ r h => by simp [triforiumref14_Join.l1] at h, fun _ _ _ _ _ r h => by simp [triforiumref14_Join.j2] at h⟩
  | k + 1 => by
    obtain ⟨ih0, ih1, ih2⟩ := triforiumref14_Join.mono_l k
    refine ⟨?_, ?_, ?_⟩
    · intro y0 y1 y2
      unfold triforiumref14_Join.l0
      repeat' first
      | (with_reducible exact ih0 _ _ _)
      | (with_reducible exact ih1 _ _ _ _)
      | (with_reducible exact ih2 _ _ _ _ _)
      | (with_reducible exact triforiumref14_Check.mono _ _)
      | (with_reducible exact triforiumref14_Scan.mono _ _ _)
      | (with_reducible exact triforiumref14_Write.mono _ _ _ _ _)
      | (with_reducible exact triforiumref14_same.mono _ _ _)
      | (with_reducible exact triforiumref14_spelled.mono _ _ _ _)
      | (with_reducible exact LeO.refl _)
      | (with_reducible exact LeO.none _)
      | (with_reducible refine LeO.ite ?_ ?_)
      | (with_reducible refine LeO.bind ?_ (fun _ => ?_))
      | exact ih0 _ _ _
      | exact ih1 _ _ _ _
      | exact ih2 _ _ _ _ _
      | exact triforiumref14_Check.mono _ _
      | exact triforiumref14_Scan.mono _ _ _
      | exact triforiumref14_Write.mono _ _ _ _ _
      | exact triforiumref14_same.mono _ _ _
      | exact triforiumref14_spelled.mono _ _ _ _
      | exact LeO.none _
      | refine LeO.ite ?_ ?_
      | refine LeO.bind ?_ (fun _ => ?_)
    · intro y0 y1 y2 y3
      unfold triforiumref14_Join.l1
      repeat' first
      | (with_reducible exact ih0 _ _ _)
      | (with_reducible exact ih1 _ _ _ _)
      | (with_reducible exact ih2 _ _ _ _ _)
      | (with_reducible exact triforiumref14_Check.mono _ _)
      | (with_reducible exact triforiumref14_Scan.mono _ _ _)
      | (with_reducible exact triforiumref14_Write.mono _ _ _ _ _)
      | (with_reducible exact triforiumref14_same.mono _ _ _)
      | (with_reducible exact triforiumref14_spelled.mono _ _ _ _)
      | (with_reducible exact LeO.refl _)
      | (with_reducible exact LeO.none _)
      | (with_reducible refine LeO.ite ?_ ?_)
      | (with_reducible refine LeO.bind ?_ (fun _ => ?_))
      | exact ih0 _ _ _
      | exact ih1 _ _ _ _
      | exact ih2 _ _ _ _ _
      | exact triforiumref14_Check.mono _ _
      | exact triforiumref14_Scan.mono _ _ _
      | exact triforiumref14_Write.mono _ _ _ _ _
      | exact triforiumref14_same.mono _ _ _
      | exact triforiumref14_spelled.mono _ _ _ _
      | exact LeO.none _
      | refine LeO.ite ?_ ?_
      | refine LeO.bind ?_ (fun _ => ?_)
    · intro y0 y1 y2 y3 y4
      unfold triforiumref14_Join.j2
      repeat' first
      | (with_reducible exact ih0 _ _ _)
      | (with_reducible exact ih1 _ _ _ _)
      | (with_reducible exact ih2 _ _ _ _ _)
      | (with_reducible exact triforiumref14_Check.mono _ _)
      | (with_reducible exact triforiumref14_Scan.mono _ _ _)
      | (with_reducible exact triforiumref14_Write.mono _ _ _ _ _)
      | (with_reducible exact triforiumref14_same.mono _ _ _)
      | (with_reducible exact triforiumref14_spelled.mono _ _ _ _)
      | (with_reducible exact LeO.refl _)
      | (with_reducible exact LeO.none _)
      | (with_reducible refine LeO.ite ?_ ?_)
      | (with_reducible refine LeO.bind ?_ (fun _ => ?_))
      | exact ih0 _ _ _
      | exact ih1 _ _ _ _
      | exact ih2 _ _ _ _ _
      | exact triforiumref14_Check.mono _ _
      | exact triforiumref14_Scan.mono _ _ _
      | exact triforiumref14_Write.mono _ _ _ _ _
      | exact triforiumref14_same.mono _ _ _
      | exact triforiumref14_spelled.mono _ _ _ _
      | exact LeO.none _
      | refine LeO.ite ?_ ?_
      | refine LeO.bind ?_ (fun _ => ?_)
theorem triforiumref14_Join.mono : ∀ a0 a1 k, LeO (triforiumref14_Join.f k a0 a1) (triforiumref14_Join.f (k + 1) a0 a1) := by
  intro a0 a1 k
  obtain ⟨ih0, ih1, ih2⟩ := triforiumref14_Join.mono_l k
  unfold triforiumref14_Join.f
  repeat' first
      | (with_reducible exact ih0 _ _ _)
      | (with_reducible exact ih1 _ _ _ _)
      | (with_reducible exact ih2 _ _ _ _ _)
      | (with_reducible exact triforiumref14_Check.mono _ _)
      | (with_reducible exact triforiumref14_Scan.mono _ _ _)
      | (with_reducible exact triforiumref14_Write.mono _ _ _ _ _)
      | (with_reducible exact triforiumref14_same.mono _ _ _)
      | (with_reducible exact triforiumref14_spelled.mono _ _ _ _)
      | (with_reducible exact LeO.refl _)
      | (with_reducible exact LeO.none _)
      | (with_reducible refine LeO.ite ?_ ?_)
      | (with_reducible refine LeO.bind ?_ (fun _ => ?_))
      | exact ih0 _ _ _
      | exact ih1 _ _ _ _
      | exact ih2 _ _ _ _ _
      | exact triforiumref14_Check.mono _ _
      | exact triforiumref14_Scan.mono _ _ _
      | exact triforiumref14_Write.mono _ _ _ _ _
      | exact triforiumref14_same.mono _ _ _
      | exact triforiumref14_spelled.mono _ _ _ _
      | exact LeO.none _
      | refine LeO.ite ?_ ?_
      | refine LeO.bind ?_ (fun _ => ?_)
set_option maxHeartbeats 8000000 in
set_option maxRecDepth 100000 in
theorem triforiumref14_Join.calls (k : Nat) (A0 : Option Addr) (c0 : Nat) (l0 : List ByteArray) (A1 : Option Addr) (c1 : Nat) (l1 : List (S37)) (r1 : ByteArray) (r2 : Int) (w : World) (hr0 : Kd.C Kd.string w A0 l0.length l0) (hc0 : l0.length ≤ c0) (hr1 : Kd.C k37 w A1 l1.length l1) (hc1 : l1.length ≤ c1) (h : triforiumref14_Join.f k l0 l1 = some (r1, r2)) :
    Calls Tryz.prog 15 #[.slice A0 l0.length c0, .slice A1 l1.length c1] w fun e w' => e = .returned (.tuple #[.string r1, .int .i64 r2]) ∧ Below w.heap.size w w' := by
  have hu37 := Tryz.underlying37
  have HR0 := Aside0.mk hr0
  have HC0 := Aside0.mk hc0
  clear hr0 hc0
  have HR1 := Aside0.mk hr1
  have HC1 := Aside0.mk hc1
  clear hr1 hc1
  have HB := Aside0.mk (Below.refl w.heap.size w)
  have H : ((triforiumref14_Check.f k l0).bind fun t212 => (if t212 = 0 then (if (l1.length : Int) > 1000 then (some ((⟨#[]⟩ : ByteArray), 5)) else (triforiumref14_Join.l0 k l0 l1 0)) else (some ((⟨#[]⟩ : ByteArray), t212)))) = some (r1, r2) := h
  clear h
  replace H := Option.bind_eq_some_iff.mp H
  obtain ⟨t212, A30, H⟩ := H
  replace H : (if t212 = 0 then (if (l1.length : Int) > 1000 then (some ((⟨#[]⟩ : ByteArray), 5)) else (triforiumref14_Join.l0 k l0 l1 0)) else (some ((⟨#[]⟩ : ByteArray), t212))) = some (r1, r2) := H
  have A3 := Aside0.mk A30
  clear A30
  by_cases c4 : t212 = 0
  · rw [if_pos c4] at H
    have c4b0 : (t212 == 0) = true := beq_iff_eq.mpr c4
    have c4b1 : (t212 != 0) = false := bne_eq_false_iff_eq.mpr c4
    clear c4
    by_cases c5 : (l1.length : Int) > 1000
    · rw [if_pos c5] at H
      have c5b0 : decide (1000 < (l1.length : Int)) = true := decide_eq_true c5
      have c5b1 : decide (1000 < l1.length) = true := decide_eq_true (by omega)
      clear c5
      simp only [Option.some.injEq, Prod.mk.injEq] at H
      obtain ⟨rfl, rfl⟩ := H
      go_enter Tryz.func15, Tryz.ntmps15
      go_wp2_with (first | ((with_reducible refine gate_callee (f := 26) rfl ?_); refine goesL_ (some 16) rfl rfl Tryz.func26 (by kernel_rfl) rfl #[.slice A0 l0.length c0] rfl (by (try simp only [List.map_toArray, List.map_cons, List.map_nil]); first | done | rfl | (simp only [List.length_drop, List.length_take]; rfl)) ?_; (with_reducible refine (triforiumref14_Check.calls k _ _ l0 t212 _ ?side1 ?side2 A3.out).mono ?_); (case side1 => repeat (first | exact HR0.out | (with_reducible refine Kd.C_alloc ?_ _) | (with_reducible refine Kd.C_drewN ?_ _) | (with_reducible refine Kd.C_drew ?_))); (case side2 => exact HC0.out); rintro e w' ⟨rfl, ⟨nd, rfl⟩⟩; refine ⟨_, rfl, ?_⟩))
      go_ret2
      exact ⟨by first | rfl | (simp [errW_none, errW_some] <;> rfl) | (simp [*, errW_none, errW_some] <;> rfl), by repeat (first | (with_reducible first | exact HB.out | apply below_alloc | apply pw_below_drewN | apply below_drew1) | exact HB.out)⟩
    · rw [if_neg c5] at H
      have c5b0 : decide (1000 < (l1.length : Int)) = false := decide_eq_false c5
      have c5b1 : decide (1000 < l1.length) = false := decide_eq_false (by omega)
      clear c5
      have H' := Aside0.mk H
      clear H
      go_enter Tryz.func15, Tryz.ntmps15
      go_wp2_with (first | ((with_reducible refine gate_callee (f := 26) rfl ?_); refine goesL_ (some 16) rfl rfl Tryz.func26 (by kernel_rfl) rfl #[.slice A0 l0.length c0] rfl (by (try simp only [List.map_toArray, List.map_cons, List.map_nil]); first | done | rfl | (simp only [List.length_drop, List.length_take]; rfl)) ?_; (with_reducible refine (triforiumref14_Check.calls k _ _ l0 t212 _ ?side1 ?side2 A3.out).mono ?_); (case side1 => repeat (first | exact HR0.out | (with_reducible refine Kd.C_alloc ?_ _) | (with_reducible refine Kd.C_drewN ?_ _) | (with_reducible refine Kd.C_drew ?_))); (case side2 => exact HC0.out); rintro e w' ⟨rfl, ⟨nd, rfl⟩⟩; refine ⟨_, rfl, ?_⟩))
      go_loopg [7] k (fun kq v7 w' => ∃ (x7_1 : Int), v7 = .int .i64 x7_1 ∧ Aside0 (triforiumref14_Join.l0 kq l0 l1 x7_1 = some (r1, r2)) ∧ Aside0 (kq ≤ k) ∧ Aside0 (Below w.heap.size w w'))
      case atStart => exact ⟨(0), (by first | rfl | (simp; done) | (simp [*]; done)), H', ⟨Nat.le_refl _⟩, ⟨by repeat (first | (with_reducible first | exact HB.out | apply below_alloc | apply pw_below_drewN | apply below_drew1) | exact HB.out)⟩⟩
      case round =>
        clear H'
        try clear c1
        try clear c2
        try clear p2
        try clear c4
        try clear c4b0
        try clear c4b1
        try clear c5
        try clear c5b0
        try clear c5b1
        obtain ⟨x7_1, rfl, HA, HK1, HB⟩ := hrel
        cases gk with
        | zero => exact absurd HA.out (by simp [triforiumref14_Join.l0])
        | succ k1 =>
          have H := HA.out
          clear HA
          simp only [triforiumref14_Join.l0] at H
          by_cases c6 : x7_1 < (l1.length : Int)
          · rw [if_pos c6] at H
            have c6b0 : decide (x7_1 < (l1.length : Int)) = true := decide_eq_true c6
            clear c6
            by_cases c7 : 0 ≤ x7_1
            · rw [if_pos c7] at H
              have c7b0 : decide (0 ≤ x7_1) = true := decide_eq_true c7
              clear c7
              replace H := Option.bind_eq_some_iff.mp H
              obtain ⟨⟨t214, t215⟩, A80, H⟩ := H
              replace H : (if t215 = 0 then (triforiumref14_Join.l0 k1 l0 l1 (wrap64 (x7_1 + 1))) else (some ((⟨#[]⟩ : ByteArray), t215))) = some (r1, r2) := H
              have A8 := Aside0.mk A80
              clear A80
              by_cases c9 : t215 = 0
              · rw [if_pos c9] at H
                have c9b0 : (t215 == 0) = true := beq_iff_eq.mpr c9
                have c9b1 : (t215 != 0) = false := bne_eq_false_iff_eq.mpr c9
                clear c9
                have H' := Aside0.mk H
                clear H
                have p213 : 0 ≤ (x7_1 : Int) := of_decide_eq_true (by first | (with_reducible assumption) | assumption)
                have q213 : x7_1 < (l1.length : Int) := of_decide_eq_true (by first | (with_reducible assumption) | assumption)
                obtain ⟨ad213, e213, hx213_0, hx213_1, hx213_2⟩ := at_T37 HR1.out x7_1 p213 q213
                cases e213
                replace hx213_0 := (HB.out.cell (World.block_lt_of_cell? w _ hx213_0)).trans hx213_0
                replace hx213_1 := (HB.out.cell (World.block_lt_of_cell? w _ hx213_1)).trans hx213_1
                replace hx213_2 := (HB.out.cell (World.block_lt_of_cell? w _ hx213_2)).trans hx213_2
                replace p213 := eq_true p213
                replace q213 := eq_true q213
                go_wp2_with (first | ((with_reducible refine gate_callee (f := 12) rfl ?_); refine goesL_ (some 35) rfl rfl Tryz.func12 (by kernel_rfl) rfl #[.slice A0 l0.length c0, .agg #[.int .i64 ((rd_T37 l1 x7_1).f0), .string ((rd_T37 l1 x7_1).f1), .int .i64 ((rd_T37 l1 x7_1).f2)]] rfl (by (try simp only [List.map_toArray, List.map_cons, List.map_nil]); first | done | rfl | (simp only [List.length_drop, List.length_take]; rfl)) ?_; (with_reducible refine (triforiumref14_Write.calls k1 _ _ l0 ((rd_T37 l1 x7_1).f0) ((rd_T37 l1 x7_1).f1) ((rd_T37 l1 x7_1).f2) t214 t215 _ ?side1 ?side2 A8.out).mono ?_); (case side1 => repeat (first | exact (Kd.C_below HR0.out HB.out) | (with_reducible refine Kd.C_alloc ?_ _) | (with_reducible refine Kd.C_drewN ?_ _) | (with_reducible refine Kd.C_drew ?_))); (case side2 => exact HC0.out); rintro e w10 ⟨rfl, hb⟩; refine ⟨_, rfl, ?_⟩; have n0_ := Aside0.mk (below_step (by repeat (first | (with_reducible first | exact HB.out | apply below_alloc | apply pw_below_drewN | apply below_drew1) | exact HB.out)) hb); clear HB; have HB := n0_; clear n0_; (try clear hb); (try clear hb2); (try clear hk); (try clear hi)))
                go_roundg k1
                case measure => have := HK1.out; omega
                case rel => exact ⟨(wrap64 (x7_1 + 1)), (by first | rfl | (simp; done) | (simp [*]; done)), H', ⟨by have := HK1.out; omega⟩, ⟨by repeat (first | (with_reducible first | exact HB.out | apply below_alloc | apply pw_below_drewN | apply below_drew1) | exact HB.out)⟩⟩
              · rw [if_neg c9] at H
                have c9b0 : (t215 == 0) = false := beq_eq_false_iff_ne.mpr c9
                have c9b1 : (t215 != 0) = true := bne_iff_ne.mpr c9
                simp only [Option.some.injEq, Prod.mk.injEq] at H
                obtain ⟨rfl, rfl⟩ := H
                have p213 : 0 ≤ (x7_1 : Int) := of_decide_eq_true (by first | (with_reducible assumption) | assumption)
                have q213 : x7_1 < (l1.length : Int) := of_decide_eq_true (by first | (with_reducible assumption) | assumption)
                obtain ⟨ad213, e213, hx213_0, hx213_1, hx213_2⟩ := at_T37 HR1.out x7_1 p213 q213
                cases e213
                replace hx213_0 := (HB.out.cell (World.block_lt_of_cell? w _ hx213_0)).trans hx213_0
                replace hx213_1 := (HB.out.cell (World.block_lt_of_cell? w _ hx213_1)).trans hx213_1
                replace hx213_2 := (HB.out.cell (World.block_lt_of_cell? w _ hx213_2)).trans hx213_2
                replace p213 := eq_true p213
                replace q213 := eq_true q213
                go_wp2_with (first | ((with_reducible refine gate_callee (f := 12) rfl ?_); refine goesL_ (some 35) rfl rfl Tryz.func12 (by kernel_rfl) rfl #[.slice A0 l0.length c0, .agg #[.int .i64 ((rd_T37 l1 x7_1).f0), .string ((rd_T37 l1 x7_1).f1), .int .i64 ((rd_T37 l1 x7_1).f2)]] rfl (by (try simp only [List.map_toArray, List.map_cons, List.map_nil]); first | done | rfl | (simp only [List.length_drop, List.length_take]; rfl)) ?_; (with_reducible refine (triforiumref14_Write.calls k1 _ _ l0 ((rd_T37 l1 x7_1).f0) ((rd_T37 l1 x7_1).f1) ((rd_T37 l1 x7_1).f2) t214 t215 _ ?side1 ?side2 A8.out).mono ?_); (case side1 => repeat (first | exact (Kd.C_below HR0.out HB.out) | (with_reducible refine Kd.C_alloc ?_ _) | (with_reducible refine Kd.C_drewN ?_ _) | (with_reducible refine Kd.C_drew ?_))); (case side2 => exact HC0.out); rintro e w11 ⟨rfl, hb⟩; refine ⟨_, rfl, ?_⟩; have n0_ := Aside0.mk (below_step (by repeat (first | (with_reducible first | exact HB.out | apply below_alloc | apply pw_below_drewN | apply below_drew1) | exact HB.out)) hb); clear HB; have HB := n0_; clear n0_; (try clear hb); (try clear hb2); (try clear hk); (try clear hi)))
                go_ret2
                exact ⟨by first | rfl | (simp [errW_none, errW_some] <;> rfl) | (simp [*, errW_none, errW_some] <;> rfl), by repeat (first | (with_reducible first | exact HB.out | apply below_alloc | apply pw_below_drewN | apply below_drew1) | exact HB.out)⟩
            · rw [if_neg c7] at H
              exact absurd H (by simp)
          · rw [if_neg c6] at H
            have c6b0 : decide (x7_1 < (l1.length : Int)) = false := decide_eq_false c6
            clear c6
            have H' := Aside0.mk H
            clear H
            go_wp2
            go_loopg [10, 11] k1 (fun kq v10 v11 w' => ∃ (x10_2 : ByteArray) (x11_2 : Int), v10 = .string x10_2 ∧ v11 = .int .i64 x11_2 ∧ Aside0 (triforiumref14_Join.l1 kq l0 l1 x10_2 x11_2 = some (r1, r2)) ∧ Aside0 (kq ≤ k1) ∧ Aside0 (Below w.heap.size w w'))
            case atStart => exact ⟨((⟨#[]⟩ : ByteArray)), (0), (by first | rfl | (simp; done) | (simp [*]; done)), (by first | rfl | (simp; done) | (simp [*]; done)), H', ⟨Nat.le_refl _⟩, ⟨by repeat (first | (with_reducible first | exact HB.out | apply below_alloc | apply pw_below_drewN | apply below_drew1) | exact HB.out)⟩⟩
            case round =>
              clear H'
              try clear c1
              try clear c2
              try clear p2
              try clear q2
              try clear hx2
              try clear c4
              try clear c4b0
              try clear c4b1
              try clear c5
              try clear c5b0
              try clear c5b1
              try clear c6
              try clear c6b0
              try clear p6
              try clear c7
              try clear c7b0
              try clear c9
              try clear c9b0
              try clear c9b1
              try clear hx213_0
              try clear hx213_1
              try clear hx213_2
              try clear p2
              try clear p213
              try clear q213
              obtain ⟨x10_2, x11_2, rfl, rfl, HA, HK2, HB⟩ := hrel
              cases gk with
              | zero => exact absurd HA.out (by simp [triforiumref14_Join.l1])
              | succ k2 =>
                have H := HA.out
                clear HA
                simp only [triforiumref14_Join.l1] at H
                by_cases c12 : x11_2 < (l1.length : Int)
                · rw [if_pos c12] at H
                  have c12b0 : decide (x11_2 < (l1.length : Int)) = true := decide_eq_true c12
                  clear c12
                  by_cases c13 : 0 ≤ x11_2
                  · rw [if_pos c13] at H
                    have c13b0 : decide (0 ≤ x11_2) = true := decide_eq_true c13
                    clear c13
                    replace H := Option.bind_eq_some_iff.mp H
                    obtain ⟨t217, A140, H⟩ := H
                    replace H : (if x10_2.size + t217.size ≤ 9223372036854775807 then ((triforiumref14_Scan.f k2 l0 (x10_2 ++ t217)).bind fun bt218 => (if bt218.2.2 = 0 then (if 0 ≤ (wrap64 (x11_2 + 1)) then (if (wrap64 (x11_2 + 1)) ≤ (l1.length : Int) then ((triforiumref14_same.f k2 bt218.1 (l1.take ((wrap64 (x11_2 + 1)) : Int).toNat)).bind fun t227 => (triforiumref14_Join.j2 k2 l0 l1 x10_2 x11_2 (!t227))) else (none)) else (none)) else (triforiumref14_Join.j2 k2 l0 l1 x10_2 x11_2 true))) else (none)) = some (r1, r2) := H
                    have A14 := Aside0.mk A140
                    clear A140
                    by_cases c15 : x10_2.size + t217.size ≤ 9223372036854775807
                    · rw [if_pos c15] at H
                      have c15b0 := eq_true c15
                      have c15b1 : decide (x10_2.size + t217.size ≤ 9223372036854775807) = true := decide_eq_true c15
                      try have c15b2 : (9223372036854775807 < x10_2.size + t217.size) = False := eq_false (Nat.not_lt.2 c15)
                      replace H := Option.bind_eq_some_iff.mp H
                      obtain ⟨⟨t218, t219, t220⟩, A160, H⟩ := H
                      replace H : (if t220 = 0 then (if 0 ≤ (wrap64 (x11_2 + 1)) then (if (wrap64 (x11_2 + 1)) ≤ (l1.length : Int) then ((triforiumref14_same.f k2 t218 (l1.take ((wrap64 (x11_2 + 1)) : Int).toNat)).bind fun t227 => (triforiumref14_Join.j2 k2 l0 l1 x10_2 x11_2 (!t227))) else (none)) else (none)) else (triforiumref14_Join.j2 k2 l0 l1 x10_2 x11_2 true)) = some (r1, r2) := H
                      have A16 := Aside0.mk A160
                      clear A160
                      have HC17 := Aside0.mk H
                      clear H
                      have p216 : 0 ≤ (x11_2 : Int) := of_decide_eq_true (by first | (with_reducible assumption) | assumption)
                      have q216 : x11_2 < (l1.length : Int) := of_decide_eq_true (by first | (with_reducible assumption) | assumption)
                      obtain ⟨ad216, e216, hx216_0, hx216_1, hx216_2⟩ := at_T37 HR1.out x11_2 p216 q216
                      cases e216
                      replace hx216_0 := (HB.out.cell (World.block_lt_of_cell? w _ hx216_0)).trans hx216_0
                      replace hx216_1 := (HB.out.cell (World.block_lt_of_cell? w _ hx216_1)).trans hx216_1
                      replace hx216_2 := (HB.out.cell (World.block_lt_of_cell? w _ hx216_2)).trans hx216_2
                      replace p216 := eq_true p216
                      replace q216 := eq_true q216
                      go_upto_region 17 with (first | ((with_reducible refine gate_callee (f := 27) rfl ?_); refine goesL_ (some 54) rfl rfl Tryz.func27 (by kernel_rfl) rfl #[.agg #[.int .i64 ((rd_T37 l1 x11_2).f0), .string ((rd_T37 l1 x11_2).f1), .int .i64 ((rd_T37 l1 x11_2).f2)]] rfl (by (try simp only [List.map_toArray, List.map_cons, List.map_nil]); first | done | rfl | (simp only [List.length_drop, List.length_take]; rfl)) ?_; (with_reducible refine (triforiumref14_spelled.calls k2 ((rd_T37 l1 x11_2).f0) ((rd_T37 l1 x11_2).f1) ((rd_T37 l1 x11_2).f2) t217 _ A14.out).mono ?_); rintro e w18 ⟨rfl, hb⟩; refine ⟨_, rfl, ?_⟩; have n0_ := Aside0.mk (below_step (by repeat (first | (with_reducible first | exact HB.out | apply below_alloc | apply pw_below_drewN | apply below_drew1) | exact HB.out)) hb); clear HB; have HB := n0_; clear n0_; (try clear hb); (try clear hb2); (try clear hk); (try clear hi)) | ((with_reducible refine gate_callee (f := 28) rfl ?_); refine goesL_ (some 56) rfl rfl Tryz.func28 (by kernel_rfl) rfl #[.slice A0 l0.length c0, .string (x10_2 ++ t217)] rfl (by (try simp only [List.map_toArray, List.map_cons, List.map_nil]); first | done | rfl | (simp only [List.length_drop, List.length_take]; rfl)) ?_; (with_reducible refine (triforiumref14_Scan.calls k2 _ _ l0 (x10_2 ++ t217) t218 t219 t220 _ ?side1 ?side2 A16.out).mono ?_); (case side1 => repeat (first | exact (Kd.C_below HR0.out HB.out) | (with_reducible refine Kd.C_alloc ?_ _) | (with_reducible refine Kd.C_drewN ?_ _) | (with_reducible refine Kd.C_drew ?_))); (case side2 => exact HC0.out); rintro e w19 ⟨v221, rfl, ho0, hb⟩; refine ⟨_, rfl, ?_⟩; have n0_ := Aside0.mk (Kd.R_lower ho0 (below_size (by repeat (first | (with_reducible first | exact HB.out | apply below_alloc | apply pw_below_drewN | apply below_drew1) | exact HB.out)))); have n1_ := Aside0.mk (below_step (by repeat (first | (with_reducible first | exact HB.out | apply below_alloc | apply pw_below_drewN | apply below_drew1) | exact HB.out)) hb); clear HB; have HO222 := n0_; have HB := n1_; clear n0_ n1_; (try clear hb); (try clear hb2); (try clear hk); (try clear hi); (try clear ho0)))
                      (try simp only [Act.put, List.setIfInBounds_toArray, List.set_cons_zero, List.set_cons_succ])
                      go_cut [70] (fun v70 wc => ∃ (kq : Nat) (x70_16 : Bool), v70 = .bool x70_16 ∧ Aside0 (triforiumref14_Join.j2 kq l0 l1 x10_2 x11_2 x70_16 = some (r1, r2)) ∧ Aside0 (kq ≤ k2) ∧ Aside0 (Below w.heap.size w wc))
                      case first =>
                        have H := HC17.out
                        clear HC17
                        by_cases c20 : t220 = 0
                        · rw [if_pos c20] at H
                          have c20b0 : (t220 == 0) = true := beq_iff_eq.mpr c20
                          have c20b1 : (t220 != 0) = false := bne_eq_false_iff_eq.mpr c20
                          clear c20
                          (first | rw [c20b0] | (simp only [i64_w, i32_w]; rw [c20b0]) | skip)
                          obtain ⟨ji21, hji21⟩ : ∃ j_ : Int, (wrap64 (x11_2 + 1)) = j_ := ⟨_, rfl⟩
                          replace H : (if 0 ≤ (ji21) then (if (ji21) ≤ (l1.length : Int) then ((triforiumref14_same.f k2 t218 (l1.take ((ji21) : Int).toNat)).bind fun t227 => (triforiumref14_Join.j2 k2 l0 l1 x10_2 x11_2 (!t227))) else (none)) else (none)) = some (r1, r2) := by first | (rw [hji21] at H; exact H) | (simp only [hji21] at H ⊢; exact H)
                          have hji21w : (IntKind.i64.wrap (x11_2 + 1)) = ji21 := (i64_w _).trans hji21
                          by_cases c22 : 0 ≤ (ji21)
                          · rw [if_pos c22] at H
                            have c22b0 := eq_true c22
                            have c22b1 : decide (0 ≤ (ji21)) = true := decide_eq_true c22
                            clear c22
                            by_cases c23 : (ji21) ≤ (l1.length : Int)
                            · rw [if_pos c23] at H
                              have c23b0 := eq_true c23
                              have c23b1 : decide ((ji21) ≤ (l1.length : Int)) = true := decide_eq_true c23
                              clear c23
                              obtain ⟨y223, hy223⟩ : ∃ y_ : List (S37), y_ = (l1.take ((ji21) : Int).toNat) := ⟨_, rfl⟩
                              replace H : ((triforiumref14_same.f k2 t218 y223).bind fun t227 => (triforiumref14_Join.j2 k2 l0 l1 x10_2 x11_2 (!t227))) = some (r1, r2) := by first | (rw [hy223]; with_reducible exact H) | (have H2_ := (Option.bind_some _ _).symm.trans H; rw [hy223]; with_reducible exact H2_) | (have H2_ := (Option.bind_some _ _).symm.trans H; with_reducible exact H2_) | with_reducible exact H | (rw [hy223]; exact H) | exact H
                              have Ny223 := Aside0.mk hy223
                              clear hy223
                              replace H := Option.bind_eq_some_iff.mp H
                              obtain ⟨t227, A240, H⟩ := H
                              replace H : (triforiumref14_Join.j2 k2 l0 l1 x10_2 x11_2 (!t227)) = some (r1, r2) := H
                              have A24 := Aside0.mk A240
                              clear A240
                              have H' := Aside0.mk H
                              clear H
                              have q25 : ((ji21) : Int) ≤ ((l1.length : Int) : Int) := of_decide_eq_true (by first | (with_reducible assumption) | assumption)
                              obtain ⟨i025, hi025, _, hsz25, _⟩ := info_parts info37
                              have hroom25 : l1.length ≤ c1 := HC1.out
                              have hC25 : Kd.C k37 _ (some ad216) l1.length l1 := HR1.out
                              have hcut25 := cut_to (P := Tryz.prog) 35 37 .i64 Tryz.underlying35 hi025 (some ad216) l1.length c1 (ji21) (of_decide_eq_true (by first | (with_reducible assumption) | assumption)) q25 hroom25
                              have hr25 := Kd.C_take (m := ((ji21) : Int).toNat) hC25 (by omega)
                              have hy25 : y223.length = ((ji21) : Int).toNat := (by rw [Ny223.out, List.length_take]; omega)
                              rw [← Ny223.out] at hr25
                              rw [← hy25] at hcut25
                              have HR226 := Aside0.mk hr25
                              have HC226 := Aside0.mk (show y223.length ≤ c1 from by omega)
                              clear hr25 hC25 hroom25 hi025 hsz25
                              have KY25 := Aside0.mk hy25
                              clear hy25
                              replace q25 := eq_true q25
                              obtain ⟨Ao26, co26, eo26⟩ := Kd.R_slice HO222.out
                              subst eo26
                              go_wp2_with (first | (go_at_call 30; (with_reducible refine (triforiumref14_same.calls k2 _ _ t218 _ _ y223 t227 _ ?side1 ?side2 ?side3 ?side4 A24.out).mono ?_); (case side1 => repeat (first | exact (Kd.R_reads' HO222.out).2.2 | (with_reducible refine Kd.C_alloc ?_ _) | (with_reducible refine Kd.C_drewN ?_ _) | (with_reducible refine Kd.C_drew ?_))); (case side2 => exact (Kd.R_reads' HO222.out).2.1); (case side3 => repeat (first | exact (Kd.C_below HR226.out HB.out) | (with_reducible refine Kd.C_alloc ?_ _) | (with_reducible refine Kd.C_drewN ?_ _) | (with_reducible refine Kd.C_drew ?_))); (case side4 => exact HC226.out); rintro e w' ⟨rfl, ⟨nd, rfl⟩⟩))
                              go_meet
                              case rel => exact ⟨_, (!t227), (by first | rfl | (simp; done) | (simp [*]; done)), H', ⟨by have := HK1.out; have := HK2.out; first | omega | exact Nat.le_refl _⟩, ⟨by repeat (first | (with_reducible first | exact HB.out | apply below_alloc | apply pw_below_drewN | apply below_drew1) | exact HB.out)⟩⟩
                            · rw [if_neg c23] at H
                              exact absurd H (by simp)
                          · rw [if_neg c22] at H
                            exact absurd H (by simp)
                        · rw [if_neg c20] at H
                          have c20b0 : (t220 == 0) = false := beq_eq_false_iff_ne.mpr c20
                          have c20b1 : (t220 != 0) = true := bne_iff_ne.mpr c20
                          (first | rw [c20b0] | (simp only [i64_w, i32_w]; rw [c20b0]) | skip)
                          have H' := Aside0.mk H
                          clear H
                          go_wp2
                          go_meet
                          case rel => exact ⟨_, (true), (by first | rfl | (simp; done) | (simp [*]; done)), H', ⟨by have := HK1.out; have := HK2.out; first | omega | exact Nat.le_refl _⟩, ⟨by repeat (first | (with_reducible first | exact HB.out | apply below_alloc | apply pw_below_drewN | apply below_drew1) | exact HB.out)⟩⟩
                      case rest =>
                        clear HC17
                        try clear c1
                        try clear c2
                        try clear p2
                        try clear q2
                        try clear hx2
                        try clear c4
                        try clear c4b0
                        try clear c4b1
                        try clear c5
                        try clear c5b0
                        try clear c5b1
                        try clear c6
                        try clear c6b0
                        try clear p6
                        try clear c7
                        try clear c7b0
                        try clear c9
                        try clear c9b0
                        try clear c9b1
                        try clear c12
                        try clear c12b0
                        try clear c13
                        try clear c13b0
                        try clear c15
                        try clear c15b0
                        try clear c15b1
                        try clear c15b2
                        try clear c20
                        try clear c20b0
                        try clear c20b1
                        try clear p21
                        try clear q21
                        try clear hx21
                        try clear c22
                        try clear c22b0
                        try clear c22b1
                        try clear c23
                        try clear c23b0
                        try clear c23b1
                        try clear q25
                        try clear c26
                        try clear hx213_0
                        try clear hx213_1
                        try clear hx213_2
                        try clear hx216_0
                        try clear hx216_1
                        try clear hx216_2
                        try clear p2
                        try clear p213
                        try clear p216
                        try clear p6
                        try clear q2
                        try clear q213
                        try clear q216
                        try clear q25
                        obtain ⟨kq, x70_16, rfl, HA, HJ16, HB⟩ := hcut
                        cases kq with
                        | zero => exact absurd HA.out (by simp [triforiumref14_Join.j2])
                        | succ kj16 =>
                          have H := HA.out
                          clear HA
                          simp only [triforiumref14_Join.j2] at H
                          by_cases c27 : x70_16 = true
                          · subst c27
                            have H1 : (if x10_2.size + 1 ≤ 9223372036854775807 then (if 0 ≤ x11_2 then (if x11_2 < (l1.length : Int) then ((triforiumref14_spelled.f kj16 ((rd_T37 l1 x11_2).f0) ((rd_T37 l1 x11_2).f1) ((rd_T37 l1 x11_2).f2)).bind fun t229 => (if (x10_2 ++ (⟨#[32]⟩ : ByteArray)).size + t229.size ≤ 9223372036854775807 then (if (((x10_2 ++ (⟨#[32]⟩ : ByteArray)) ++ t229).size : Int) > 40000 then (some ((⟨#[]⟩ : ByteArray), 7)) else (triforiumref14_Join.l1 kj16 l0 l1 ((x10_2 ++ (⟨#[32]⟩ : ByteArray)) ++ t229) (wrap64 (x11_2 + 1)))) else (none))) else (none)) else (none)) else (none)) = some (r1, r2) := by rw [if_pos rfl] at H; exact H
                            clear H
                            have H := H1
                            clear H1
                            by_cases c28 : x10_2.size + 1 ≤ 9223372036854775807
                            · rw [if_pos c28] at H
                              have c28b0 := eq_true c28
                              have c28b1 : decide (x10_2.size + 1 ≤ 9223372036854775807) = true := decide_eq_true c28
                              try have c28b2 : (9223372036854775807 < x10_2.size + 1) = False := eq_false (Nat.not_lt.2 c28)
                              by_cases c29 : 0 ≤ x11_2
                              · rw [if_pos c29] at H
                                have c29b0 : decide (0 ≤ x11_2) = true := decide_eq_true c29
                                clear c29
                                by_cases c30 : x11_2 < (l1.length : Int)
                                · rw [if_pos c30] at H
                                  have c30b0 : decide (x11_2 < (l1.length : Int)) = true := decide_eq_true c30
                                  clear c30
                                  replace H := Option.bind_eq_some_iff.mp H
                                  obtain ⟨t229, A310, H⟩ := H
                                  replace H : (if (x10_2 ++ (⟨#[32]⟩ : ByteArray)).size + t229.size ≤ 9223372036854775807 then (if (((x10_2 ++ (⟨#[32]⟩ : ByteArray)) ++ t229).size : Int) > 40000 then (some ((⟨#[]⟩ : ByteArray), 7)) else (triforiumref14_Join.l1 kj16 l0 l1 ((x10_2 ++ (⟨#[32]⟩ : ByteArray)) ++ t229) (wrap64 (x11_2 + 1)))) else (none)) = some (r1, r2) := H
                                  have A31 := Aside0.mk A310
                                  clear A310
                                  by_cases c32 : (x10_2 ++ (⟨#[32]⟩ : ByteArray)).size + t229.size ≤ 9223372036854775807
                                  · rw [if_pos c32] at H
                                    have c32b0 := eq_true c32
                                    have c32b1 : decide ((x10_2 ++ (⟨#[32]⟩ : ByteArray)).size + t229.size ≤ 9223372036854775807) = true := decide_eq_true c32
                                    try have c32b2 : (9223372036854775807 < (x10_2 ++ (⟨#[32]⟩ : ByteArray)).size + t229.size) = False := eq_false (Nat.not_lt.2 c32)
                                    have c32b3 : (9223372036854775807 < x10_2.size + 1 + t229.size) = False := eq_false (Nat.not_lt.2 (by have e := c32; rw [ByteArray.size_append] at e; exact e))
                                    have z33 : (((x10_2 ++ (⟨#[32]⟩ : ByteArray)) ++ t229).size : Int) = (x10_2.size : Int) + 1 + (t229.size : Int) := by rw [ByteArray.size_append, ByteArray.size_append]; rfl
                                    by_cases c33 : (((x10_2 ++ (⟨#[32]⟩ : ByteArray)) ++ t229).size : Int) > 40000
                                    · rw [if_pos c33] at H
                                      have c33b0 : decide (40000 < (((x10_2 ++ (⟨#[32]⟩ : ByteArray)) ++ t229).size : Int)) = true := decide_eq_true c33
                                      have c33b2 : (40000 : Int) < (x10_2.size : Int) + 1 + (t229.size : Int) := z33 ▸ c33
                                      have c33b3 : 40000 < x10_2.size + 1 + t229.size := by omega
                                      have c33b1 : decide (40000 < ((x10_2 ++ (⟨#[32]⟩ : ByteArray)) ++ t229).size) = true := decide_eq_true (by omega)
                                      clear c33
                                      simp only [Option.some.injEq, Prod.mk.injEq] at H
                                      obtain ⟨rfl, rfl⟩ := H
                                      have p228 : 0 ≤ (x11_2 : Int) := of_decide_eq_true (by first | (with_reducible assumption) | assumption)
                                      have q228 : x11_2 < (l1.length : Int) := of_decide_eq_true (by first | (with_reducible assumption) | assumption)
                                      obtain ⟨ad228, e228, hx228_0, hx228_1, hx228_2⟩ := at_T37 HR1.out x11_2 p228 q228
                                      obtain rfl : ad216 = ad228 := (by injection e228)
                                      replace hx228_0 := (HB.out.cell (World.block_lt_of_cell? w _ hx228_0)).trans hx228_0
                                      replace hx228_1 := (HB.out.cell (World.block_lt_of_cell? w _ hx228_1)).trans hx228_1
                                      replace hx228_2 := (HB.out.cell (World.block_lt_of_cell? w _ hx228_2)).trans hx228_2
                                      replace p228 := eq_true p228
                                      replace q228 := eq_true q228
                                      go_wp2_with (first | ((with_reducible refine gate_callee (f := 27) rfl ?_); refine goesL_ (some 78) rfl rfl Tryz.func27 (by kernel_rfl) rfl #[.agg #[.int .i64 ((rd_T37 l1 x11_2).f0), .string ((rd_T37 l1 x11_2).f1), .int .i64 ((rd_T37 l1 x11_2).f2)]] rfl (by (try simp only [List.map_toArray, List.map_cons, List.map_nil]); first | done | rfl | (simp only [List.length_drop, List.length_take]; rfl)) ?_; (with_reducible refine (triforiumref14_spelled.calls kj16 ((rd_T37 l1 x11_2).f0) ((rd_T37 l1 x11_2).f1) ((rd_T37 l1 x11_2).f2) t229 _ A31.out).mono ?_); rintro e w34 ⟨rfl, hb⟩; refine ⟨_, rfl, ?_⟩; have n0_ := Aside0.mk (below_step (by repeat (first | (with_reducible first | exact HB.out | apply below_alloc | apply pw_below_drewN | apply below_drew1) | exact HB.out)) hb); clear HB; have HB := n0_; clear n0_; (try clear hb); (try clear hb2); (try clear hk); (try clear hi)))
                                      go_ret2
                                      exact ⟨by first | rfl | (simp [errW_none, errW_some] <;> rfl) | (simp [*, errW_none, errW_some] <;> rfl), by repeat (first | (with_reducible first | exact HB.out | apply below_alloc | apply pw_below_drewN | apply below_drew1) | exact HB.out)⟩
                                    · rw [if_neg c33] at H
                                      have c33b0 : decide (40000 < (((x10_2 ++ (⟨#[32]⟩ : ByteArray)) ++ t229).size : Int)) = false := decide_eq_false c33
                                      have c33b2 : ¬ (40000 : Int) < (x10_2.size : Int) + 1 + (t229.size : Int) := z33 ▸ c33
                                      have c33b3 : ¬ 40000 < x10_2.size + 1 + t229.size := by omega
                                      have c33b1 : decide (40000 < ((x10_2 ++ (⟨#[32]⟩ : ByteArray)) ++ t229).size) = false := decide_eq_false (by omega)
                                      clear c33
                                      have H' := Aside0.mk H
                                      clear H
                                      have p228 : 0 ≤ (x11_2 : Int) := of_decide_eq_true (by first | (with_reducible assumption) | assumption)
                                      have q228 : x11_2 < (l1.length : Int) := of_decide_eq_true (by first | (with_reducible assumption) | assumption)
                                      obtain ⟨ad228, e228, hx228_0, hx228_1, hx228_2⟩ := at_T37 HR1.out x11_2 p228 q228
                                      obtain rfl : ad216 = ad228 := (by injection e228)
                                      replace hx228_0 := (HB.out.cell (World.block_lt_of_cell? w _ hx228_0)).trans hx228_0
                                      replace hx228_1 := (HB.out.cell (World.block_lt_of_cell? w _ hx228_1)).trans hx228_1
                                      replace hx228_2 := (HB.out.cell (World.block_lt_of_cell? w _ hx228_2)).trans hx228_2
                                      replace p228 := eq_true p228
                                      replace q228 := eq_true q228
                                      go_wp2_with (first | ((with_reducible refine gate_callee (f := 27) rfl ?_); refine goesL_ (some 78) rfl rfl Tryz.func27 (by kernel_rfl) rfl #[.agg #[.int .i64 ((rd_T37 l1 x11_2).f0), .string ((rd_T37 l1 x11_2).f1), .int .i64 ((rd_T37 l1 x11_2).f2)]] rfl (by (try simp only [List.map_toArray, List.map_cons, List.map_nil]); first | done | rfl | (simp only [List.length_drop, List.length_take]; rfl)) ?_; (with_reducible refine (triforiumref14_spelled.calls kj16 ((rd_T37 l1 x11_2).f0) ((rd_T37 l1 x11_2).f1) ((rd_T37 l1 x11_2).f2) t229 _ A31.out).mono ?_); rintro e w35 ⟨rfl, hb⟩; refine ⟨_, rfl, ?_⟩; have n0_ := Aside0.mk (below_step (by repeat (first | (with_reducible first | exact HB.out | apply below_alloc | apply pw_below_drewN | apply below_drew1) | exact HB.out)) hb); clear HB; have HB := n0_; clear n0_; (try clear hb); (try clear hb2); (try clear hk); (try clear hi)))
                                      go_roundg kj16
                                      case measure => have := HK1.out; have := HK2.out; have := HJ16.out; omega
                                      case rel => exact ⟨((x10_2 ++ (⟨#[32]⟩ : ByteArray)) ++ t229), (wrap64 (x11_2 + 1)), (by first | rfl | (simp; done) | (simp [*]; done)), (by first | rfl | (simp; done) | (simp [*]; done)), H', ⟨by have := HK1.out; have := HK2.out; have := HJ16.out; omega⟩, ⟨by repeat (first | (with_reducible first | exact HB.out | apply below_alloc | apply pw_below_drewN | apply below_drew1) | exact HB.out)⟩⟩
                                  · rw [if_neg c32] at H
                                    exact absurd H (by simp)
                                · rw [if_neg c30] at H
                                  exact absurd H (by simp)
                              · rw [if_neg c29] at H
                                exact absurd H (by simp)
                            · rw [if_neg c28] at H
                              exact absurd H (by simp)
                          · replace c27 := Bool.eq_false_iff.mpr c27
                            subst c27
                            have H1 : (if 0 ≤ x11_2 then (if x11_2 < (l1.length : Int) then ((triforiumref14_spelled.f kj16 ((rd_T37 l1 x11_2).f0) ((rd_T37 l1 x11_2).f1) ((rd_T37 l1 x11_2).f2)).bind fun t231 => (if x10_2.size + t231.size ≤ 9223372036854775807 then (if ((x10_2 ++ t231).size : Int) > 40000 then (some ((⟨#[]⟩ : ByteArray), 7)) else (triforiumref14_Join.l1 kj16 l0 l1 (x10_2 ++ t231) (wrap64 (x11_2 + 1)))) else (none))) else (none)) else (none)) = some (r1, r2) := by rw [if_neg (show ¬ (false = true) by decide)] at H; exact H
                            clear H
                            have H := H1
                            clear H1
                            by_cases c36 : 0 ≤ x11_2
                            · rw [if_pos c36] at H
                              have c36b0 : decide (0 ≤ x11_2) = true := decide_eq_true c36
                              clear c36
                              by_cases c37 : x11_2 < (l1.length : Int)
                              · rw [if_pos c37] at H
                                have c37b0 : decide (x11_2 < (l1.length : Int)) = true := decide_eq_true c37
                                clear c37
                                replace H := Option.bind_eq_some_iff.mp H
                                obtain ⟨t231, A380, H⟩ := H
                                replace H : (if x10_2.size + t231.size ≤ 9223372036854775807 then (if ((x10_2 ++ t231).size : Int) > 40000 then (some ((⟨#[]⟩ : ByteArray), 7)) else (triforiumref14_Join.l1 kj16 l0 l1 (x10_2 ++ t231) (wrap64 (x11_2 + 1)))) else (none)) = some (r1, r2) := H
                                have A38 := Aside0.mk A380
                                clear A380
                                by_cases c39 : x10_2.size + t231.size ≤ 9223372036854775807
                                · rw [if_pos c39] at H
                                  have c39b0 := eq_true c39
                                  have c39b1 : decide (x10_2.size + t231.size ≤ 9223372036854775807) = true := decide_eq_true c39
                                  try have c39b2 : (9223372036854775807 < x10_2.size + t231.size) = False := eq_false (Nat.not_lt.2 c39)
                                  have z40 : ((x10_2 ++ t231).size : Int) = (x10_2.size : Int) + (t231.size : Int) := by rw [ByteArray.size_append]; rfl
                                  by_cases c40 : ((x10_2 ++ t231).size : Int) > 40000
                                  · rw [if_pos c40] at H
                                    have c40b0 : decide (40000 < ((x10_2 ++ t231).size : Int)) = true := decide_eq_true c40
                                    have c40b2 : (40000 : Int) < (x10_2.size : Int) + (t231.size : Int) := z40 ▸ c40
                                    have c40b1 : decide (40000 < (x10_2 ++ t231).size) = true := decide_eq_true (by omega)
                                    clear c40
                                    simp only [Option.some.injEq, Prod.mk.injEq] at H
                                    obtain ⟨rfl, rfl⟩ := H
                                    have p230 : 0 ≤ (x11_2 : Int) := of_decide_eq_true (by first | (with_reducible assumption) | assumption)
                                    have q230 : x11_2 < (l1.length : Int) := of_decide_eq_true (by first | (with_reducible assumption) | assumption)
                                    obtain ⟨ad230, e230, hx230_0, hx230_1, hx230_2⟩ := at_T37 HR1.out x11_2 p230 q230
                                    obtain rfl : ad216 = ad230 := (by injection e230)
                                    replace hx230_0 := (HB.out.cell (World.block_lt_of_cell? w _ hx230_0)).trans hx230_0
                                    replace hx230_1 := (HB.out.cell (World.block_lt_of_cell? w _ hx230_1)).trans hx230_1
                                    replace hx230_2 := (HB.out.cell (World.block_lt_of_cell? w _ hx230_2)).trans hx230_2
                                    replace p230 := eq_true p230
                                    replace q230 := eq_true q230
                                    go_wp2_with (first | ((with_reducible refine gate_callee (f := 27) rfl ?_); refine goesL_ (some 78) rfl rfl Tryz.func27 (by kernel_rfl) rfl #[.agg #[.int .i64 ((rd_T37 l1 x11_2).f0), .string ((rd_T37 l1 x11_2).f1), .int .i64 ((rd_T37 l1 x11_2).f2)]] rfl (by (try simp only [List.map_toArray, List.map_cons, List.map_nil]); first | done | rfl | (simp only [List.length_drop, List.length_take]; rfl)) ?_; (with_reducible refine (triforiumref14_spelled.calls kj16 ((rd_T37 l1 x11_2).f0) ((rd_T37 l1 x11_2).f1) ((rd_T37 l1 x11_2).f2) t231 _ A38.out).mono ?_); rintro e w41 ⟨rfl, hb⟩; refine ⟨_, rfl, ?_⟩; have n0_ := Aside0.mk (below_step (by repeat (first | (with_reducible first | exact HB.out | apply below_alloc | apply pw_below_drewN | apply below_drew1) | exact HB.out)) hb); clear HB; have HB := n0_; clear n0_; (try clear hb); (try clear hb2); (try clear hk); (try clear hi)))
                                    go_ret2
                                    exact ⟨by first | rfl | (simp [errW_none, errW_some] <;> rfl) | (simp [*, errW_none, errW_some] <;> rfl), by repeat (first | (with_reducible first | exact HB.out | apply below_alloc | apply pw_below_drewN | apply below_drew1) | exact HB.out)⟩
                                  · rw [if_neg c40] at H
                                    have c40b0 : decide (40000 < ((x10_2 ++ t231).size : Int)) = false := decide_eq_false c40
                                    have c40b2 : ¬ (40000 : Int) < (x10_2.size : Int) + (t231.size : Int) := z40 ▸ c40
                                    have c40b1 : decide (40000 < (x10_2 ++ t231).size) = false := decide_eq_false (by omega)
                                    clear c40
                                    have H' := Aside0.mk H
                                    clear H
                                    have p230 : 0 ≤ (x11_2 : Int) := of_decide_eq_true (by first | (with_reducible assumption) | assumption)
                                    have q230 : x11_2 < (l1.length : Int) := of_decide_eq_true (by first | (with_reducible assumption) | assumption)
                                    obtain ⟨ad230, e230, hx230_0, hx230_1, hx230_2⟩ := at_T37 HR1.out x11_2 p230 q230
                                    obtain rfl : ad216 = ad230 := (by injection e230)
                                    replace hx230_0 := (HB.out.cell (World.block_lt_of_cell? w _ hx230_0)).trans hx230_0
                                    replace hx230_1 := (HB.out.cell (World.block_lt_of_cell? w _ hx230_1)).trans hx230_1
                                    replace hx230_2 := (HB.out.cell (World.block_lt_of_cell? w _ hx230_2)).trans hx230_2
                                    replace p230 := eq_true p230
                                    replace q230 := eq_true q230
                                    go_wp2_with (first | ((with_reducible refine gate_callee (f := 27) rfl ?_); refine goesL_ (some 78) rfl rfl Tryz.func27 (by kernel_rfl) rfl #[.agg #[.int .i64 ((rd_T37 l1 x11_2).f0), .string ((rd_T37 l1 x11_2).f1), .int .i64 ((rd_T37 l1 x11_2).f2)]] rfl (by (try simp only [List.map_toArray, List.map_cons, List.map_nil]); first | done | rfl | (simp only [List.length_drop, List.length_take]; rfl)) ?_; (with_reducible refine (triforiumref14_spelled.calls kj16 ((rd_T37 l1 x11_2).f0) ((rd_T37 l1 x11_2).f1) ((rd_T37 l1 x11_2).f2) t231 _ A38.out).mono ?_); rintro e w42 ⟨rfl, hb⟩; refine ⟨_, rfl, ?_⟩; have n0_ := Aside0.mk (below_step (by repeat (first | (with_reducible first | exact HB.out | apply below_alloc | apply pw_below_drewN | apply below_drew1) | exact HB.out)) hb); clear HB; have HB := n0_; clear n0_; (try clear hb); (try clear hb2); (try clear hk); (try clear hi)))
                                    go_roundg kj16
                                    case measure => have := HK1.out; have := HK2.out; have := HJ16.out; omega
                                    case rel => exact ⟨(x10_2 ++ t231), (wrap64 (x11_2 + 1)), (by first | rfl | (simp; done) | (simp [*]; done)), (by first | rfl | (simp; done) | (simp [*]; done)), H', ⟨by have := HK1.out; have := HK2.out; have := HJ16.out; omega⟩, ⟨by repeat (first | (with_reducible first | exact HB.out | apply below_alloc | apply pw_below_drewN | apply below_drew1) | exact HB.out)⟩⟩
                                · rw [if_neg c39] at H
                                  exact absurd H (by simp)
                              · rw [if_neg c37] at H
                                exact absurd H (by simp)
                            · rw [if_neg c36] at H
                              exact absurd H (by simp)
                    · rw [if_neg c15] at H
                      exact absurd H (by simp)
                  · rw [if_neg c13] at H
                    exact absurd H (by simp)
                · rw [if_neg c12] at H
                  have c12b0 : decide (x11_2 < (l1.length : Int)) = false := decide_eq_false c12
                  clear c12
                  simp only [Option.some.injEq, Prod.mk.injEq] at H
                  obtain ⟨rfl, rfl⟩ := H
                  go_wp2
                  go_ret2
                  exact ⟨by first | rfl | (simp [errW_none, errW_some] <;> rfl) | (simp [*, errW_none, errW_some] <;> rfl), by repeat (first | (with_reducible first | exact HB.out | apply below_alloc | apply pw_below_drewN | apply below_drew1) | exact HB.out)⟩
  · rw [if_neg c4] at H
    have c4b0 : (t212 == 0) = false := beq_eq_false_iff_ne.mpr c4
    have c4b1 : (t212 != 0) = true := bne_iff_ne.mpr c4
    simp only [Option.some.injEq, Prod.mk.injEq] at H
    obtain ⟨rfl, rfl⟩ := H
    go_enter Tryz.func15, Tryz.ntmps15
    go_wp2_with (first | ((with_reducible refine gate_callee (f := 26) rfl ?_); refine goesL_ (some 16) rfl rfl Tryz.func26 (by kernel_rfl) rfl #[.slice A0 l0.length c0] rfl (by (try simp only [List.map_toArray, List.map_cons, List.map_nil]); first | done | rfl | (simp only [List.length_drop, List.length_take]; rfl)) ?_; (with_reducible refine (triforiumref14_Check.calls k _ _ l0 t212 _ ?side1 ?side2 A3.out).mono ?_); (case side1 => repeat (first | exact HR0.out | (with_reducible refine Kd.C_alloc ?_ _) | (with_reducible refine Kd.C_drewN ?_ _) | (with_reducible refine Kd.C_drew ?_))); (case side2 => exact HC0.out); rintro e w' ⟨rfl, ⟨nd, rfl⟩⟩; refine ⟨_, rfl, ?_⟩))
    go_ret2
    exact ⟨by first | rfl | (simp [errW_none, errW_some] <;> rfl) | (simp [*, errW_none, errW_some] <;> rfl), by repeat (first | (with_reducible first | exact HB.out | apply below_alloc | apply pw_below_drewN | apply below_drew1) | exact HB.out)⟩

-- NOT PRINTED: function 4 (triforiumlaw14_TokenWrites)

end Go.Proofs.YtmkfeanggmjhmaaGreat.PTokenWrites
