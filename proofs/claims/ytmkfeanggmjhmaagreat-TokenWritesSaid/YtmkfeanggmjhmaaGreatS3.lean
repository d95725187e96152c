/- Walks of the scanner: blanks and comments, names, variables, numbers, symbols. -/
import Derived.Test.YtmkfeanggmjhmaaGreatS1
namespace Go.Proofs.YtmkfeanggmjhmaaGreat.S
open Go Go.RowKit Go.Proofs.YtmkfeanggmjhmaaGreatW.PrintWords Go.Proofs.YtmkfeanggmjhmaaGreatW.PrintLast Go.Proofs.YtmkfeanggmjhmaaGreatW.PrintMore
open Go.Proofs.YtmkfeanggmjhmaaGreat.M Go.Proofs.YtmkfeanggmjhmaaGreat.K
set_option linter.unusedSimpArgs false
set_option linter.unusedVariables false

/-- what a stop is made of -/
def stopV (p : Nat) (c : Int) : Value := .iface 63 (.agg #[.int .i64 p, .int .i64 c])
def stopE (p : Nat) (c : Int) : Ending := .panicked [{ v := stopV p c, recovered := false }]
theorem run_panic_iface (w : World) (t : TypeId) (v : Value) : (Instr.panic (.iface t v)).run Tryz.prog w = .halt (.panic (.iface t v)) w := rfl
def blanksR : Except Nat Nat → Ending
  | .ok r => .returned (.int .i64 r)
  | .error p => stopE p 162

set_option maxHeartbeats 2000000 in
theorem blanks_calls (bx : Nat) (s : ByteArray) (i : Int) (h0 : 0 ≤ i) (hi : i ≤ s.size) (w : World)
    (hx : w.cell? ⟨bx, 1, none⟩ = some (.string s)) (hs : s.size ≤ 1000000000000) :
    Calls Tryz.prog 47 #[.pointer (some ⟨bx, 0, none⟩), .int .i64 i] w fun r w' =>
      r = blanksR (blanksE s i.toNat) ∧ Below w.heap.size w w' := by
  obtain ⟨i, rfl⟩ := Int.eq_ofNat_of_zero_le h0
  rw [Int.toNat_natCast]
  have hbx : bx < w.heap.size := lt_of_cell hx
  go_enter Tryz.func47, Tryz.ntmps47
  go_wp2
  go_loopg [1] (s.size - i + 1) (fun gg v wr => ∃ k : Nat, v = .int .i64 k ∧ k ≤ s.size ∧ s.size - k + 1 ≤ gg ∧ Hid (blanksE s i = blanksE s k) ∧ Below w.heap.size w wr)
  case atStart => exact ⟨i, rfl, by omega, Nat.le_refl _, rfl, Below.refl _ _⟩
  case round =>
    obtain ⟨k, rfl, hk, hg, hw, hbl⟩ := hrel
    have hx' : wr.cell? ⟨bx, 1, none⟩ = some (.string s) := (hbl.cell (p := ⟨bx, 1, none⟩) hbx).trans hx
    have HW := Lib.hid (fun w => while_calls s (by omega) k (by omega) blankB _ enters_blanks1 (fun c w _ _ => blanksC_calls c w) w)
    rw [Int.toNat_natCast] at HW
    have hj1 := whileE_ge blankB s k
    have hj2 := whileE_le blankB s k hk
    have Hn := Lib.hid (blanksE_none s k)
    have He := Lib.hid (blanksE_err s k)
    have Hs := Lib.hid (fun h e hn => blanksE_step s k hk h (e := e) hn)
    generalize whileE blankB s k = j at HW hj1 hj2 Hn He Hs
    have HP := Lib.hid (fun w => prefix_calls s j ⟨#[40, 42]⟩ w)
    change Hid (∀ w, Calls _ _ _ _ fun e w' => e = .returned (.bool (preAt s j [40, 42])) ∧ _) at HP
    have HN := Lib.hid (fun w hx => nested_calls bx s j (by omega) (by omega) ⟨#[40, 42]⟩ ⟨#[42, 41]⟩ (by decide) (by decide) w hx hs)
    rw [Int.toNat_natCast] at HN
    change Hid (∀ w, _ → Calls _ _ _ _ fun r w' => r = .returned (nestR (nestE s [40, 42] [42, 41] j 0)) ∧ _) at HN
    have Hlt := Lib.hid (fun e => nestE_lt (s := s) (b := [40, 42]) (e := [42, 41]) (by decide) (by decide) (i := j) (deep := 0) (r := e) (by omega))
    have Hle := Lib.hid (fun e => nestE_le (s := s) (b := [40, 42]) (e := [42, 41]) (i := j) (deep := 0) (r := e) (by omega))
    generalize hp : preAt s j [40, 42] = p at HP Hn He Hs
    generalize hne : nestE s [40, 42] [42, 41] j 0 = ne at HN He Hs Hlt Hle
    clear hp hne
    have hjz : (j : Int) ≤ (s.size : Int) := by omega
    cases p with
    | false =>
      replace Hn := Lib.hid (Hn.out rfl)
      clear He Hs
      go_wp2_with (first | (go_at_call 61; refine (HW.out _).mono ?_; rintro e w' ⟨rfl, ⟨nd, rfl⟩⟩) | (go_at_call 10; refine (HP.out _).mono ?_; rintro e w' ⟨rfl, rfl⟩))
      go_ret
      exact ⟨by rw [hw.out, Hn.out]; rfl, below_drewN hbl _⟩
    | true =>
      cases ne with
      | none =>
        replace He := Lib.hid (He.out rfl rfl)
        clear Hn Hs
        have hpan := run_panic_iface
        go_wp2_with (first | (go_at_call 61; refine (HW.out _).mono ?_; rintro e w' ⟨rfl, ⟨nd, rfl⟩⟩) | (go_at_call 10; refine (HP.out _).mono ?_; rintro e w' ⟨rfl, rfl⟩) | (go_at_call 67; refine (HN.out _ ?_).mono ?_; exact hx'; rintro e w' ⟨rfl, hb'⟩; unfold nestR))
        refine ⟨rfl, ?_, ?_⟩
        · rw [hw.out, He.out]; rfl
        · exact (below_drewN hbl nd).trans (hb'.mono hbl.size)
      | some e =>
        replace Hs := Lib.hid (Hs.out rfl e rfl)
        have h1 := Hlt.out e rfl
        have h2 := Hle.out e rfl
        clear Hn He Hlt Hle
        go_wp2_with (first | (go_at_call 61; refine (HW.out _).mono ?_; rintro e w' ⟨rfl, ⟨nd, rfl⟩⟩) | (go_at_call 10; refine (HP.out _).mono ?_; rintro e w' ⟨rfl, rfl⟩) | (go_at_call 67; refine (HN.out _ ?_).mono ?_; exact hx'; rintro e w' ⟨rfl, hb'⟩; unfold nestR))
        go_roundg (s.size - e + 1)
        case measure => omega
        case rel => exact ⟨e, rfl, by omega, Nat.le_refl _, Lib.hid (hw.out.trans Hs.out), (below_drewN hbl nd).trans (hb'.mono hbl.size)⟩

theorem indexed_calls (bx : Nat) (s : ByteArray) (i : Int) (h0 : 0 ≤ i) (hi : i ≤ s.size) (w : World)
    (hx : w.cell? ⟨bx, 1, none⟩ = some (.string s)) (hs : s.size ≤ 1000000000000) :
    Calls Tryz.prog 82 #[.pointer (some ⟨bx, 0, none⟩), .int .i64 i] w fun r w' =>
      r = .returned (.int .i64 (indexE s i.toNat)) ∧ Drawn0 w w' := by
  obtain ⟨i, rfl⟩ := Int.eq_ofNat_of_zero_le h0
  rw [Int.toNat_natCast]
  unfold indexE
  by_cases hlt : i < s.size
  · rw [if_pos hlt]
    have hltz : (i : Int) < (s.size : Int) := by omega
    have hbt : bt s i = ((s[i]'hlt).toNat : Int) := by unfold bt; simp [hlt]
    rw [hbt]
    by_cases hd : ((s[i]'hlt).toNat : Int) = 46
    · rw [if_pos hd]
      have gd : (((s[i]'hlt).toNat : Int) == 46) = true := by simpa using hd
      have HW := Lib.hid (fun w => while_calls s (by omega) ((i : Int) + 1) (by omega) digitB _ enters_digit (fun c w _ _ => digit_calls c w) w)
      rw [show ((i : Int) + 1).toNat = i + 1 by omega] at HW
      have hj1 := whileE_ge digitB s (i + 1)
      have hj2 := whileE_le digitB s (i + 1) (by omega)
      clear hd hbt
      generalize whileE digitB s (i + 1) = j at HW hj1 hj2 ⊢
      by_cases hj : i + 1 < j
      · rw [if_pos hj]
        have hjz : (i : Int) + 1 < (j : Int) := by omega
        go_enter Tryz.func82, Tryz.ntmps82
        go_wp2_with (go_at_call 61; refine (HW.out _).mono ?_; rintro e w' ⟨rfl, ⟨nd, rfl⟩⟩)
        go_ret
        exact ⟨rfl, by repeat (first | exact Drawn0.refl _ | apply Drawn0.step)⟩
      · rw [if_neg hj]
        have hjz : ¬ (i : Int) + 1 < (j : Int) := by omega
        go_enter Tryz.func82, Tryz.ntmps82
        go_wp2_with (go_at_call 61; refine (HW.out _).mono ?_; rintro e w' ⟨rfl, ⟨nd, rfl⟩⟩)
        go_ret
        exact ⟨rfl, by repeat (first | exact Drawn0.refl _ | apply Drawn0.step)⟩
    · rw [if_neg hd]
      have gd : (((s[i]'hlt).toNat : Int) == 46) = false := by simpa using hd
      clear hd hbt
      go_enter Tryz.func82, Tryz.ntmps82
      go_wp2
      go_ret
      exact ⟨rfl, Drawn0.refl _⟩
  · rw [if_neg hlt]
    have hltz : ¬ (i : Int) < (s.size : Int) := by omega
    go_enter Tryz.func82, Tryz.ntmps82
    go_wp2
    go_ret
    exact ⟨rfl, Drawn0.refl _⟩

theorem numbers_calls (bx : Nat) (s : ByteArray) (i : Int) (h0 : 0 ≤ i) (w : World)
    (hx : w.cell? ⟨bx, 1, none⟩ = some (.string s)) (hs : s.size ≤ 1000000000000) :
    Calls Tryz.prog 71 #[.pointer (some ⟨bx, 0, none⟩), .int .i64 i] w fun r w' =>
      r = .returned (.tuple #[.int .i64 6, .int .i64 (whileE digitB s i.toNat)]) ∧ Drawn0 w w' := by
  have HW := Lib.hid (fun w => while_calls s (by omega) i h0 digitB _ enters_digit (fun c w _ _ => digit_calls c w) w)
  go_enter Tryz.func71, Tryz.ntmps71
  go_wp2_with (go_at_call 61; refine (HW.out _).mono ?_; rintro e w' ⟨rfl, ⟨nd, rfl⟩⟩)
  go_ret2
  exact ⟨rfl, by repeat (first | exact Drawn0.refl _ | apply Drawn0.step)⟩

set_option maxHeartbeats 2000000 in
theorem names_calls (bx : Nat) (s : ByteArray) (i : Int) (h0 : 0 ≤ i) (hi : i ≤ s.size) (w : World)
    (hx : w.cell? ⟨bx, 1, none⟩ = some (.string s)) (hs : s.size ≤ 1000000000000) :
    Calls Tryz.prog 69 #[.pointer (some ⟨bx, 0, none⟩), .int .i64 i] w fun r w' =>
      r = .returned (.tuple #[.int .i64 (namesE s i.toNat).1, .int .i64 (namesE s i.toNat).2]) ∧ Drawn0 w w' := by
  obtain ⟨i, rfl⟩ := Int.eq_ofNat_of_zero_le h0
  rw [Int.toNat_natCast]
  have HI := Lib.hid (fun w => ident_calls s (by omega) i h0 w)
  rw [Int.toNat_natCast] at HI
  have hm1 := identE_ge s i
  have hm2 := identE_le s i (by omega)
  unfold namesE
  generalize identE s i = m at HI hm1 hm2 ⊢
  by_cases him : i < m
  · rw [if_pos him]
    go_enter Tryz.func69, Tryz.ntmps69
    go_wp2_with (go_at_call 42; refine (HI.out _).mono ?_; rintro e w' ⟨rfl, ⟨nd, rfl⟩⟩)
    go_loopg [6, 7] (s.size - m + 1) (fun gg v1 v2 wr => ∃ (k : Int) (e : Nat), v1 = .int .i64 k ∧ v2 = .int .i64 e ∧ m ≤ e ∧ e ≤ s.size ∧ s.size - e + 1 ≤ gg ∧ Hid (wordE s 1 m = wordE s k e) ∧ Drawn0 w wr)
    case atStart => exact ⟨1, m, rfl, rfl, Nat.le_refl _, hm2, Nat.le_refl _, rfl, by repeat (first | exact Drawn0.refl _ | apply Drawn0.step)⟩
    case round =>
      obtain ⟨k, e, rfl, rfl, hme, he, hg, hw, hd⟩ := hrel
      obtain ⟨nd, rfl⟩ := hd
      have hx' : (w.drewN nd).cell? ⟨bx, 1, none⟩ = some (.string s) := hx
      have hie : (i : Int) < (e : Int) := by omega
      by_cases hlt : e < s.size
      · have hltz : (e : Int) < (s.size : Int) := by omega
        have hbt : bt s e = ((s[e]'hlt).toNat : Int) := by unfold bt; simp [hlt]
        have Hdot := Lib.hid (wordE_dot s k e hlt)
        have Hstop := Lib.hid (wordE_stop s k e hlt)
        have Hstep := Lib.hid (wordE_step s k e hlt)
        rw [hbt] at Hdot Hstep
        by_cases hdd : ((s[e]'hlt).toNat : Int) = 46
        · have gd : (((s[e]'hlt).toNat : Int) == 46) = true := by simpa using hdd
          replace Hstep := Lib.hid (Hstep.out hdd)
          clear hbt hdd Hdot
          have HJ := Lib.hid (fun w => ident_calls s (by omega) ((e : Int) + 1) (by omega) w)
          rw [show ((e : Int) + 1).toNat = e + 1 by omega] at HJ
          have hj1 := identE_ge s (e + 1)
          have hj2 := identE_le s (e + 1) (by omega)
          generalize identE s (e + 1) = j at HJ hj1 hj2 Hstop Hstep
          by_cases hj : j = e + 1
          · have gj : ((j : Int) == (e : Int) + 1) = true := by simp; omega
            replace Hstop := Lib.hid (Hstop.out hj)
            clear hj Hstep
            go_wp2_with (go_at_call 42; refine (HJ.out _).mono ?_; rintro e w' ⟨rfl, ⟨nd, rfl⟩⟩)
            go_ret2
            exact ⟨by rw [hw.out, Hstop.out]; rfl, by repeat (first | exact Drawn0.refl _ | apply Drawn0.step)⟩
          · have gj : ((j : Int) == (e : Int) + 1) = false := by simp; omega
            replace Hstep := Lib.hid (Hstep.out hj)
            have hj' : e + 1 < j := by omega
            clear hj Hstop
            go_wp2_with (go_at_call 42; refine (HJ.out _).mono ?_; rintro e w' ⟨rfl, ⟨nd, rfl⟩⟩)
            go_roundg (s.size - j + 1)
            case measure => omega
            case rel => exact ⟨2, j, rfl, rfl, by omega, hj2, Nat.le_refl _, Lib.hid (hw.out.trans Hstep.out), by repeat (first | exact Drawn0.refl _ | apply Drawn0.step)⟩
        · have gd : (((s[e]'hlt).toNat : Int) == 46) = false := by simpa using hdd
          replace Hdot := Lib.hid (Hdot.out hdd)
          clear hbt hdd Hstop Hstep
          go_wp2
          go_ret2
          exact ⟨by rw [hw.out, Hdot.out]; rfl, by repeat (first | exact Drawn0.refl _ | apply Drawn0.step)⟩
      · have hltz : ¬ (e : Int) < (s.size : Int) := by omega
        have Hend := Lib.hid (wordE_end s k e (by omega))
        go_wp2
        go_ret2
        exact ⟨by rw [hw.out, Hend.out]; rfl, by repeat (first | exact Drawn0.refl _ | apply Drawn0.step)⟩
  · rw [if_neg him]
    have hmz : ¬ (i : Int) < (m : Int) := by omega
    go_enter Tryz.func69, Tryz.ntmps69
    go_wp2_with (go_at_call 42; refine (HI.out _).mono ?_; rintro e w' ⟨rfl, ⟨nd, rfl⟩⟩)
    go_loopg [6, 7] 1 (fun gg v1 v2 wr => v1 = .int .i64 1 ∧ v2 = .int .i64 m ∧ Drawn0 w wr)
    case atStart => exact ⟨rfl, rfl, by repeat (first | exact Drawn0.refl _ | apply Drawn0.step)⟩
    case round =>
      obtain ⟨rfl, rfl, ⟨nd, rfl⟩⟩ := hrel
      go_wp2
      go_ret2
      exact ⟨rfl, by repeat (first | exact Drawn0.refl _ | apply Drawn0.step)⟩
end Go.Proofs.YtmkfeanggmjhmaaGreat.S
