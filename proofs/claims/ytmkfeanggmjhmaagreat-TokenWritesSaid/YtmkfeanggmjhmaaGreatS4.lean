/- Walks of the scanner: variables and symbols. -/
import Derived.Test.YtmkfeanggmjhmaaGreatS3
namespace Go.Proofs.YtmkfeanggmjhmaaGreat.S
open Go Go.RowKit Go.Proofs.YtmkfeanggmjhmaaGreatW.PrintWords Go.Proofs.YtmkfeanggmjhmaaGreatW.PrintLast Go.Proofs.YtmkfeanggmjhmaaGreatW.PrintMore
open Go.Proofs.YtmkfeanggmjhmaaGreat.M Go.Proofs.YtmkfeanggmjhmaaGreat.K
set_option linter.unusedSimpArgs false
set_option linter.unusedVariables false
attribute [local go_sem] max2_int min2_int max_two min_two

set_option maxHeartbeats 1000000 in
theorem mark_calls (bx v1 v2 : Nat) (s : ByteArray) (i : Nat) (hi : i ≤ s.size) (m : ByteArray) (hm : 0 < m.size) (hm2 : m.size ≤ 1000000000000) (w : World)
    (h1 : w.cell? ⟨v1, 0, none⟩ = some (.int .i64 i)) (h2 : w.cell? ⟨v2, 0, none⟩ = some (.pointer (some ⟨bx, 0, none⟩)))
    (hx : w.cell? ⟨bx, 1, none⟩ = some (.string s)) (hs : s.size ≤ 1000000000000) :
    Calls Tryz.prog 81 #[.string m, .pointer (some ⟨v1, 0, none⟩), .pointer (some ⟨v2, 0, none⟩)] w fun r w' =>
      r = .returned (.tuple #[.int .i64 (markV s i m.data.toList).1, .bool (markV s i m.data.toList).2]) ∧ Drawn0 w w' := by
  have HP := Lib.hid (fun w => prefix_calls s i m w)
  have HI := Lib.hid (fun w => ident_calls s (by omega) ((i : Int) + (m.size : Int)) (by omega) w)
  rw [show ((i : Int) + (m.size : Int)).toNat = i + m.size by omega] at HI
  unfold markV
  have hml : m.data.toList.length = m.size := rfl
  have hge := identE_ge s (i + m.size)
  rw [hml]
  clear hml
  generalize identE s (i + m.size) = j at HI hge ⊢
  generalize preAt s i m.data.toList = p at HP ⊢
  have hiz : (i : Int) ≤ (s.size : Int) := by omega
  cases p with
  | true =>
    rw [if_pos rfl]
    by_cases hj : i + m.size < j
    · have e : decide (i + m.size < j) = true := by simpa using hj
      rw [e]
      have hjz : (i : Int) + (m.size : Int) < (j : Int) := by omega
      clear e
      go_enter Tryz.func81, Tryz.ntmps81
      go_wp2
      go_quiet ((go_at_call 10; exact Calls.quiet_of_same (HP.out _)))
      go_wp2_with (go_at_call 42; refine (HI.out _).mono ?_; rintro e w' ⟨rfl, ⟨nd, rfl⟩⟩)
      go_ret2
      exact ⟨by simp [hjz], by repeat (first | exact Drawn0.refl _ | apply Drawn0.step)⟩
    · have e : decide (i + m.size < j) = false := by simpa using hj
      rw [e]
      have hjz : ¬ (i : Int) + (m.size : Int) < (j : Int) := by omega
      clear e
      go_enter Tryz.func81, Tryz.ntmps81
      go_wp2
      go_quiet ((go_at_call 10; exact Calls.quiet_of_same (HP.out _)))
      go_wp2_with (go_at_call 42; refine (HI.out _).mono ?_; rintro e w' ⟨rfl, ⟨nd, rfl⟩⟩)
      go_ret2
      exact ⟨by simp [hjz], by repeat (first | exact Drawn0.refl _ | apply Drawn0.step)⟩
  | false =>
    simp only [Bool.false_eq_true, if_false]
    have hjz : ¬ (i : Int) + (m.size : Int) < 0 := by omega
    go_enter Tryz.func81, Tryz.ntmps81
    go_wp2
    go_quiet ((go_at_call 10; exact Calls.quiet_of_same (HP.out _)))
    go_wp2
    go_ret2
    exact ⟨by simp; omega, by repeat (first | exact Drawn0.refl _ | apply Drawn0.step)⟩

theorem enters_mark : Enters Tryz.prog 81 := enters_of Tryz.func81 (by kernel_rfl) rfl

set_option maxHeartbeats 2000000 in
theorem variables_calls (bx : Nat) (s : ByteArray) (i : Int) (h0 : 0 ≤ i) (hi : i ≤ s.size) (w : World)
    (hx : w.cell? ⟨bx, 1, none⟩ = some (.string s)) (hs : s.size ≤ 1000000000000) :
    Calls Tryz.prog 70 #[.pointer (some ⟨bx, 0, none⟩), .int .i64 i] w fun r w' =>
      r = .returned (.tuple #[.int .i64 (varsE s i.toNat).1, .int .i64 (varsE s i.toNat).2]) ∧ Below w.heap.size w w' := by
  obtain ⟨i, rfl⟩ := Int.eq_ofNat_of_zero_le h0
  rw [Int.toNat_natCast]
  have hbx : bx < w.heap.size := lt_of_cell hx
  have hin : i ≤ s.size := by omega
  have eg := enters_mark
  unfold Enters at eg
  -- the world behind the two boxes
  have HW : Hid (∀ W, Drawn0 ((w.alloc (.cells #[.pointer (some ⟨bx, 0, none⟩)] 66)).alloc (.cells #[.int .i64 i] 3)) W →
      W.cell? ⟨w.heap.size + 1, 0, none⟩ = some (.int .i64 i) ∧ W.cell? ⟨w.heap.size, 0, none⟩ = some (.pointer (some ⟨bx, 0, none⟩)) ∧ W.cell? ⟨bx, 1, none⟩ = some (.string s) ∧ Below w.heap.size w W) := by
    rintro W ⟨n, rfl⟩
    refine ⟨?_, ?_, ?_, ?_⟩
    · show World.cell? ((w.alloc _).alloc _) _ = _
      exact cell_at _ _ _ _ (by simp only [World.size_alloc])
    · show World.cell? ((w.alloc _).alloc _) _ = _
      rw [cell_old _ _ _ _ (by simp only [World.size_alloc]; omega)]; exact cell_at _ _ _ _ rfl
    · show World.cell? ((w.alloc _).alloc _) _ = _
      rw [cell_old _ _ _ _ (by simp only [World.size_alloc]; omega), cell_old _ _ _ _ hbx]; exact hx
    · exact below_drewN (((Below.refl _ w).alloc (Nat.le_refl _) _).alloc (by simp only [World.size_alloc]; omega) _) n
  have HM : Hid (∀ (m : ByteArray) (W : World), 0 < m.size → m.size ≤ 1000000000000 → Drawn0 ((w.alloc (.cells #[.pointer (some ⟨bx, 0, none⟩)] 66)).alloc (.cells #[.int .i64 i] 3)) W →
      Calls Tryz.prog 81 #[.string m, .pointer (some ⟨w.heap.size + 1, 0, none⟩), .pointer (some ⟨w.heap.size, 0, none⟩)] W fun r w' =>
      r = .returned (.tuple #[.int .i64 (markV s i m.data.toList).1, .bool (markV s i m.data.toList).2]) ∧ Drawn0 W w') := fun m W hm hm2 hW =>
    mark_calls bx _ _ s i hin m hm hm2 W (HW.out W hW).1 (HW.out W hW).2.1 (HW.out W hW).2.2.1 hs
  have HM1 := Lib.hid (fun W => HM.out ⟨#[39]⟩ W (by decide) (by decide))
  have HM2 := Lib.hid (fun W => HM.out ⟨#[63, 39]⟩ W (by decide) (by decide))
  have HM3 := Lib.hid (fun W => HM.out ⟨#[63]⟩ W (by decide) (by decide))
  change Hid (∀ W, _ → Calls _ _ _ _ fun r w' => r = .returned (.tuple #[.int .i64 (markV s i [39]).1, .bool (markV s i [39]).2]) ∧ _) at HM1
  change Hid (∀ W, _ → Calls _ _ _ _ fun r w' => r = .returned (.tuple #[.int .i64 (markV s i [63, 39]).1, .bool (markV s i [63, 39]).2]) ∧ _) at HM2
  change Hid (∀ W, _ → Calls _ _ _ _ fun r w' => r = .returned (.tuple #[.int .i64 (markV s i [63]).1, .bool (markV s i [63]).2]) ∧ _) at HM3
  clear HM
  have HX := Lib.hid (fun (e : Nat) (he : e ≤ s.size) (W : World) (hW : W.cell? ⟨bx, 1, none⟩ = some (.string s)) => indexed_calls bx s e (by omega) (by omega) W hW hs)
  unfold varsE
  cases h1 : markE s i [39] with
  | some e =>
    rw [markV_some h1] at HM1
    clear h1 HM2 HM3 HX
    go_enter Tryz.func70, Tryz.ntmps70
    go_wp2_with fail
    refine (HM1.out _ (by repeat (first | exact Drawn0.refl _ | apply Drawn0.step))).mono ?_
    rintro r w' ⟨rfl, ⟨nd, rfl⟩⟩
    go_wp2
    go_ret2
    exact ⟨rfl, (HW.out _ (by repeat (first | exact Drawn0.refl _ | apply Drawn0.step))).2.2.2⟩
  | none =>
    obtain ⟨e1, he1⟩ := markV_none h1
    rw [he1] at HM1
    clear h1 he1
    cases h2 : markE s i [63, 39] with
    | some e =>
      rw [markV_some h2] at HM2
      have he := markE_le hin h2
      clear h2 HM3
      have HX' := Lib.hid (HX.out e (by omega))
      rw [Int.toNat_natCast] at HX'
      clear HX
      go_enter Tryz.func70, Tryz.ntmps70
      go_wp2_with fail
      refine (HM1.out _ (by repeat (first | exact Drawn0.refl _ | apply Drawn0.step))).mono ?_
      rintro r w' ⟨rfl, ⟨nd, rfl⟩⟩
      go_wp2_with fail
      refine (HM2.out _ (by repeat (first | exact Drawn0.refl _ | apply Drawn0.step))).mono ?_
      rintro r w' ⟨rfl, ⟨nd, rfl⟩⟩
      go_wp2_with fail
      refine (HX'.out _ (HW.out _ (by repeat (first | exact Drawn0.refl _ | apply Drawn0.step))).2.2.1).mono ?_
      rintro r w' ⟨rfl, ⟨nd, rfl⟩⟩
      go_wp2
      go_ret2
      exact ⟨rfl, (HW.out _ (by repeat (first | exact Drawn0.refl _ | apply Drawn0.step))).2.2.2⟩
    | none =>
      obtain ⟨e2, he2⟩ := markV_none h2
      rw [he2] at HM2
      clear h2 he2
      cases h3 : markE s i [63] with
      | some e =>
        rw [markV_some h3] at HM3
        have he := markE_le hin h3
        clear h3
        have HX' := Lib.hid (HX.out e (by omega))
        rw [Int.toNat_natCast] at HX'
        clear HX
        go_enter Tryz.func70, Tryz.ntmps70
        go_wp2_with fail
        refine (HM1.out _ (by repeat (first | exact Drawn0.refl _ | apply Drawn0.step))).mono ?_
        rintro r w' ⟨rfl, ⟨nd, rfl⟩⟩
        go_wp2_with fail
        refine (HM2.out _ (by repeat (first | exact Drawn0.refl _ | apply Drawn0.step))).mono ?_
        rintro r w' ⟨rfl, ⟨nd, rfl⟩⟩
        go_wp2_with fail
        refine (HM3.out _ (by repeat (first | exact Drawn0.refl _ | apply Drawn0.step))).mono ?_
        rintro r w' ⟨rfl, ⟨nd, rfl⟩⟩
        go_wp2_with fail
        refine (HX'.out _ (HW.out _ (by repeat (first | exact Drawn0.refl _ | apply Drawn0.step))).2.2.1).mono ?_
        rintro r w' ⟨rfl, ⟨nd, rfl⟩⟩
        go_wp2
        go_ret2
        exact ⟨rfl, (HW.out _ (by repeat (first | exact Drawn0.refl _ | apply Drawn0.step))).2.2.2⟩
      | none =>
        obtain ⟨e3, he3⟩ := markV_none h3
        rw [he3] at HM3
        clear h3 he3 HX
        go_enter Tryz.func70, Tryz.ntmps70
        go_wp2_with fail
        refine (HM1.out _ (by repeat (first | exact Drawn0.refl _ | apply Drawn0.step))).mono ?_
        rintro r w' ⟨rfl, ⟨nd, rfl⟩⟩
        go_wp2_with fail
        refine (HM2.out _ (by repeat (first | exact Drawn0.refl _ | apply Drawn0.step))).mono ?_
        rintro r w' ⟨rfl, ⟨nd, rfl⟩⟩
        go_wp2_with fail
        refine (HM3.out _ (by repeat (first | exact Drawn0.refl _ | apply Drawn0.step))).mono ?_
        rintro r w' ⟨rfl, ⟨nd, rfl⟩⟩
        go_wp2
        go_quiet (fail)
        go_wp2
        go_ret2
        exact ⟨rfl, (HW.out _ (by repeat (first | exact Drawn0.refl _ | apply Drawn0.step))).2.2.2⟩

theorem symbols_calls (bx : Nat) (s : ByteArray) (i : Int) (h0 : 0 ≤ i) (hi : i < s.size) (w : World)
    (hx : w.cell? ⟨bx, 1, none⟩ = some (.string s)) (hs : s.size ≤ 1000000000000) :
    Calls Tryz.prog 72 #[.pointer (some ⟨bx, 0, none⟩), .int .i64 i] w fun r w' =>
      r = .returned (.tuple #[.int .i64 7, .int .i64 (symE s i.toNat)]) ∧ Drawn0 w w' := by
  obtain ⟨i, rfl⟩ := Int.eq_ofNat_of_zero_le h0
  rw [Int.toNat_natCast]
  have HN := Lib.hid (fun w => named_calls s (by omega) i h0 (by omega) w)
  have HR := Lib.hid (fun w => run_calls s (by omega) i h0 w)
  rw [Int.toNat_natCast] at HN HR
  have hn1 := namedE_ge s i
  have hn2 := namedE_le s i (by omega)
  have hr1 := whileE_ge signB s i
  have hr2 := whileE_le signB s i (by omega)
  change i ≤ runE s i at hr1
  change runE s i ≤ s.size at hr2
  have hlt : i < s.size := by omega
  have hbt : bt s i = ((s[i]'hlt).toNat : Int) := by unfold bt; simp [hlt]
  have HB := Lib.hid (fun w => isPoint_calls ((s[i]'hlt).toNat : Int) w)
  unfold symE
  rw [hbt]
  clear hbt
  generalize namedE s i = a at HN hn1 hn2 ⊢
  generalize runE s i = b at HR hr1 hr2 ⊢
  generalize pointB ((s[i]'hlt).toNat : Int) = p at HB ⊢
  have hltz : (i : Int) < (s.size : Int) := hi
  by_cases hab : a < b
  · have habz : (a : Int) < (b : Int) := by omega
    rw [show max a b = b by omega]
    by_cases hbi : b = i
    · omega
    · rw [if_neg hbi]
      have gb : ((b : Int) == (i : Int)) = false := by simp; omega
      clear hbi
      go_enter Tryz.func72, Tryz.ntmps72
      go_wp2
      go_quiet ((first | (go_at_call 44; exact Calls.quiet_of ((HN.out _).mono fun _ _ ⟨he, hd⟩ => ⟨he, hd.out⟩)) | (go_at_call 43; exact Calls.quiet_of ((HR.out _).mono fun _ _ ⟨he, hd⟩ => ⟨he, hd.out⟩))))
      go_wp2
      go_ret2
      exact ⟨rfl, by repeat (first | exact Drawn0.refl _ | apply Drawn0.step)⟩
  · have habz : ¬ (a : Int) < (b : Int) := by omega
    rw [show max a b = a by omega]
    by_cases hai : a = i
    · have ga : ((a : Int) == (i : Int)) = true := by simp; omega
      rw [if_pos hai]
      cases p with
      | true =>
        rw [if_pos rfl]
        have Hai := Lib.hid hai
        clear hai
        go_enter Tryz.func72, Tryz.ntmps72
        go_wp2
        go_quiet ((first | (go_at_call 44; exact Calls.quiet_of ((HN.out _).mono fun _ _ ⟨he, hd⟩ => ⟨he, hd.out⟩)) | (go_at_call 43; exact Calls.quiet_of ((HR.out _).mono fun _ _ ⟨he, hd⟩ => ⟨he, hd.out⟩))))
        go_wp2_with (go_at_call 45; refine (HB.out _).mono ?_; rintro e w' ⟨rfl, ⟨nd, rfl⟩⟩)
        go_ret2
        exact ⟨by rw [Hai.out]; rfl, by repeat (first | exact Drawn0.refl _ | apply Drawn0.step)⟩
      | false =>
        simp only [Bool.false_eq_true, if_false]
        have Hai := Lib.hid hai
        clear hai
        go_enter Tryz.func72, Tryz.ntmps72
        go_wp2
        go_quiet ((first | (go_at_call 44; exact Calls.quiet_of ((HN.out _).mono fun _ _ ⟨he, hd⟩ => ⟨he, hd.out⟩)) | (go_at_call 43; exact Calls.quiet_of ((HR.out _).mono fun _ _ ⟨he, hd⟩ => ⟨he, hd.out⟩))))
        go_wp2_with (go_at_call 45; refine (HB.out _).mono ?_; rintro e w' ⟨rfl, ⟨nd, rfl⟩⟩)
        go_ret2
        exact ⟨by rw [Hai.out]; rfl, by repeat (first | exact Drawn0.refl _ | apply Drawn0.step)⟩
    · rw [if_neg hai]
      have ga : ((a : Int) == (i : Int)) = false := by simp; omega
      clear hai
      go_enter Tryz.func72, Tryz.ntmps72
      go_wp2
      go_quiet ((first | (go_at_call 44; exact Calls.quiet_of ((HN.out _).mono fun _ _ ⟨he, hd⟩ => ⟨he, hd.out⟩)) | (go_at_call 43; exact Calls.quiet_of ((HR.out _).mono fun _ _ ⟨he, hd⟩ => ⟨he, hd.out⟩))))
      go_wp2
      go_ret2
      exact ⟨rfl, by repeat (first | exact Drawn0.refl _ | apply Drawn0.step)⟩
end Go.Proofs.YtmkfeanggmjhmaaGreat.S
