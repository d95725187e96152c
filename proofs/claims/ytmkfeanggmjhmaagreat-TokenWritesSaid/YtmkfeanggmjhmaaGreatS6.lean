/- Walk of the scanner: one token. -/
import Derived.Test.YtmkfeanggmjhmaaGreatS5
import Derived.Test.YtmkfeanggmjhmaaGreatM
import Derived.Test.YtmkfeanggmjhmaaGreatKw
namespace Go.Proofs.YtmkfeanggmjhmaaGreat.S
open Go Go.RowKit Go.Proofs.YtmkfeanggmjhmaaGreatW.PrintWords Go.Proofs.YtmkfeanggmjhmaaGreatW.PrintLast Go.Proofs.YtmkfeanggmjhmaaGreatW.PrintMore
open Go.Proofs.YtmkfeanggmjhmaaGreat.M Go.Proofs.YtmkfeanggmjhmaaGreat.K
set_option linter.unusedSimpArgs false
set_option linter.unusedVariables false

def oneR (i : Nat) : Except Int ((Int × ByteArray) × Nat) → Ending
  | .ok ((k, t), e) => .returned (.tuple #[.agg #[.int .i64 k, .string t, .int .i64 i], .int .i64 e])
  | .error c => stopE i c

set_option maxRecDepth 100000 in
set_option maxHeartbeats 4000000 in
theorem one_calls (bx bm n : Nat) (p : List UInt8 → Bool) (s : ByteArray) (i : Int) (h0 : 0 ≤ i) (hi : i < s.size) (w : World)
    (hm : w.cell? ⟨bx, 0, none⟩ = some (.map (some bm))) (hx : w.cell? ⟨bx, 1, none⟩ = some (.string s)) (hk : KwSet w bm n p) (hs : s.size ≤ 1000000000000) :
    Calls Tryz.prog 48 #[.pointer (some ⟨bx, 0, none⟩), .int .i64 i] w fun r w' =>
      r = oneR i.toNat (oneE p s i.toNat) ∧ Below w.heap.size w w' := by
  obtain ⟨i, rfl⟩ := Int.eq_ofNat_of_zero_le h0
  rw [Int.toNat_natCast]
  have hbx : bx < w.heap.size := lt_of_cell hx
  have hbm : bm < w.heap.size := hk.lt
  have hpan := run_panic_iface
  have hlt : i < s.size := by omega
  have hltz : (i : Int) < (s.size : Int) := hi
  have hbt : bt s i = ((s[i]'hlt).toNat : Int) := by unfold bt; simp [hlt]
  generalize hE : oneE p s i = E
  have Htext := Lib.hid (oneE_text (kw := p) (s := s) (i := i))
  have Hquote := Lib.hid (oneE_quote (kw := p) (s := s) (i := i))
  have Hnone := Lib.hid (fun h hp k e => oneE_none (kw := p) (s := s) (i := i) h hp (k := k) (e := e))
  have Hsome := Lib.hid (fun h hp k e => oneE_some (kw := p) (s := s) (i := i) h hp (k := k) (e := e))
  rw [hbt, hE] at Htext Hquote Hnone Hsome
  clear hbt hE
  by_cases hA : ((s[i]'hlt).toNat : Int) = 34
  · have gA : (((s[i]'hlt).toNat : Int) == 34) = true := by simp [hA]
    have HE := Lib.hid (Htext.out hA)
    clear hA Htext Hquote Hnone Hsome
    have HT := Lib.hid (fun w hx => text_calls bx s i (by omega) hi w hx hs)
    rw [Int.toNat_natCast] at HT
    cases hte : textE s (i + 1) [] with
    | none =>
      rw [hte] at HT HE
      clear hte
      obtain rfl := HE.out
      go_enter Tryz.func48, Tryz.ntmps48
      go_wp2_with fail
      refine (HT.out _ ?_).mono ?_
      · rw [cell_old _ _ _ _ hbx]; exact hx
      rintro r w' ⟨rfl, hb⟩
      unfold textR stopE
      go_wp2
      exact ⟨rfl, rfl, (((Below.refl _ w).alloc (Nat.le_refl _) _).trans (hb.mono (by simp)))⟩
    | some lj =>
      obtain ⟨l, j⟩ := lj
      rw [hte] at HT HE
      clear hte
      obtain rfl := HE.out
      go_enter Tryz.func48, Tryz.ntmps48
      go_wp2_with fail
      refine (HT.out _ ?_).mono ?_
      · rw [cell_old _ _ _ _ hbx]; exact hx
      rintro r w' ⟨rfl, hb⟩
      unfold textR
      have hd0 : w'.cell? ⟨w.heap.size, 0, none⟩ = some (.int .i64 0) := (hb.cell (p := ⟨w.heap.size, 0, none⟩) (by simp)).trans (cells_at w _ _ _ 0 rfl)
      have hd1 : w'.cell? ⟨w.heap.size, 1, none⟩ = some (.string ⟨#[]⟩) := (hb.cell (p := ⟨w.heap.size, 1, none⟩) (by simp)).trans (cells_at w _ _ _ 1 rfl)
      have hd2 : w'.cell? ⟨w.heap.size, 2, none⟩ = some (.int .i64 0) := (hb.cell (p := ⟨w.heap.size, 2, none⟩) (by simp)).trans (cells_at w _ _ _ 2 rfl)
      have hf1 : ∀ o, w'.frozen? ⟨w.heap.size, o, none⟩ = false := fun o => (hb.frozen (p := ⟨w.heap.size, o, none⟩) (by simp)).trans (frozen_at w _ _ _ o rfl)
      go_wp2
      refine bodyPost_ret (v := .tuple #[.agg #[.int .i64 8, .string ⟨l.toArray⟩, .int .i64 i], .int .i64 j]) (by simp [results, Tryz.results48, go_sem, hd0, hd1, hd2]) rfl ⟨rfl, ?_⟩
      exact ((((((Below.refl _ w).alloc (Nat.le_refl _) _).trans (hb.mono (by simp))).setCell (p := ⟨w.heap.size, 0, none⟩) (Nat.le_refl _) _).setCell (p := ⟨w.heap.size, 1, none⟩) (Nat.le_refl _) _).setCell (p := ⟨w.heap.size, 2, none⟩) (Nat.le_refl _) _)
  · have gA : (((s[i]'hlt).toNat : Int) == 34) = false := by simpa using hA
    replace Hquote := Lib.hid (Hquote.out hA)
    replace Hnone := Lib.hid (Hnone.out hA)
    replace Hsome := Lib.hid (Hsome.out hA)
    clear hA Htext
    have HP := Lib.hid (fun w => prefix_calls s i ⟨#[92, 60, 111, 112, 101, 110, 62]⟩ w)
    change Hid (∀ w, Calls _ _ _ _ fun e w' => e = .returned (.bool (preAt s i opened)) ∧ _) at HP
    have HN := Lib.hid (fun w hx => nested_calls bx s i (by omega) (by omega) ⟨#[92, 60, 111, 112, 101, 110, 62]⟩ ⟨#[92, 60, 99, 108, 111, 115, 101, 62]⟩ (by decide) (by decide) w hx hs)
    rw [Int.toNat_natCast] at HN
    change Hid (∀ w, _ → Calls _ _ _ _ fun r w' => r = .returned (nestR (nestE s opened closed i 0)) ∧ _) at HN
    have Hboth := Lib.hid (fun h r h' => nestE_both (s := s) (b := opened) (e := closed) (i := i) (r := r) (by omega) h h')
    have Hle := Lib.hid (fun e => nestE_le (s := s) (b := opened) (e := closed) (i := i) (deep := 0) (r := e) (by omega))
    have hiz : (i : Int) ≤ (s.size : Int) := by omega
    cases hp : preAt s i opened with
    | true =>
      have HE := Lib.hid (Hquote.out hp)
      rw [hp] at HP Hboth
      clear hp Hquote Hnone Hsome
      cases hne : nestE s opened closed i 0 with
      | none =>
        rw [hne] at HN HE
        clear hne Hboth Hle
        obtain rfl := HE.out
        go_enter Tryz.func48, Tryz.ntmps48
        go_wp2_with fail
        refine (HP.out _).mono ?_
        rintro r w' ⟨rfl, rfl⟩
        go_wp2_with fail
        refine (HN.out _ ?_).mono ?_
        · rw [cell_old _ _ _ _ hbx]; exact hx
        rintro r w' ⟨rfl, hb⟩
        unfold nestR
        go_wp2
        exact ⟨rfl, rfl, (((Below.refl _ w).alloc (Nat.le_refl _) _).trans (hb.mono (by simp)))⟩
      | some e =>
        have he1 := Hboth.out rfl e hne
        have he2 := Hle.out e hne
        rw [hne] at HN HE
        clear hne Hboth Hle
        obtain rfl := HE.out
        have hl1 : opened.length = 7 := rfl
        have hl2 : closed.length = 8 := rfl
        rw [hl1, hl2] at he1
        clear hl1 hl2
        go_enter Tryz.func48, Tryz.ntmps48
        go_wp2_with fail
        refine (HP.out _).mono ?_
        rintro r w' ⟨rfl, rfl⟩
        go_wp2_with fail
        refine (HN.out _ ?_).mono ?_
        · rw [cell_old _ _ _ _ hbx]; exact hx
        rintro r w' ⟨rfl, hb⟩
        unfold nestR
        have hx1 : w'.cell? ⟨bx, 1, none⟩ = some (.string s) := (hb.cell (p := ⟨bx, 1, none⟩) (by simp; omega)).trans (by rw [cell_old _ _ _ _ hbx]; exact hx)
        have hd0 : w'.cell? ⟨w.heap.size, 0, none⟩ = some (.int .i64 0) := (hb.cell (p := ⟨w.heap.size, 0, none⟩) (by simp)).trans (cells_at w _ _ _ 0 rfl)
        have hd1 : w'.cell? ⟨w.heap.size, 1, none⟩ = some (.string ⟨#[]⟩) := (hb.cell (p := ⟨w.heap.size, 1, none⟩) (by simp)).trans (cells_at w _ _ _ 1 rfl)
        have hd2 : w'.cell? ⟨w.heap.size, 2, none⟩ = some (.int .i64 0) := (hb.cell (p := ⟨w.heap.size, 2, none⟩) (by simp)).trans (cells_at w _ _ _ 2 rfl)
        have hf1 : ∀ o, w'.frozen? ⟨w.heap.size, o, none⟩ = false := fun o => (hb.frozen (p := ⟨w.heap.size, o, none⟩) (by simp)).trans (frozen_at w _ _ _ o rfl)
        have hsl : ∀ W, (Instr.slice 9 (.string s) (some (.int .i64 ((i : Int) + 7))) (some (.int .i64 ((e : Int) - 8))) none).run Tryz.prog W = .ok (.string (s.extract (i + 7) (e - 8))) W := fun W => by
          rw [run_slice_string W _ s _ _ _ _ Tryz.underlying9 (by omega) (by omega) (by omega)]
          rw [show ((i : Int) + 7).toNat = i + 7 by omega, show ((e : Int) - 8).toNat = e - 8 by omega]
        go_wp2
        refine bodyPost_ret (v := .tuple #[.agg #[.int .i64 9, .string (s.extract (i + 7) (e - 8)), .int .i64 i], .int .i64 e]) (by simp [results, Tryz.results48, go_sem, hd0, hd1, hd2]) rfl ⟨rfl, ?_⟩
        exact ((((((Below.refl _ w).alloc (Nat.le_refl _) _).trans (hb.mono (by simp))).setCell (p := ⟨w.heap.size, 0, none⟩) (Nat.le_refl _) _).setCell (p := ⟨w.heap.size, 1, none⟩) (Nat.le_refl _) _).setCell (p := ⟨w.heap.size, 2, none⟩) (Nat.le_refl _) _)
    | false =>
      replace Hnone := Lib.hid (Hnone.out hp)
      replace Hsome := Lib.hid (Hsome.out hp)
      rw [hp] at HP
      clear hp HN Hboth Hle Hquote
      go_enter Tryz.func48, Tryz.ntmps48
      go_wp2_with fail
      refine (HP.out _).mono ?_
      rintro r w' ⟨rfl, rfl⟩
      go_wp2
      go_loopg [7, 8, 66] 4 (fun gg v7 v8 v66 wr => ∃ j : Nat, j ≤ 4 ∧ v66 = .int .i64 j ∧ v7 = .int .i64 (bestE s i j).1 ∧ v8 = .int .i64 (bestE s i j).2 ∧ 4 - j ≤ gg ∧
        Below (w.heap.size + 2) ((w.alloc (.cells #[.int .i64 0, .string ⟨#[]⟩, .int .i64 0] 30)).alloc (.cells #[.func (.func 69) #[.pointer (some ⟨bx, 0, none⟩)] #[], .func (.func 70) #[.pointer (some ⟨bx, 0, none⟩)] #[], .func (.func 71) #[.pointer (some ⟨bx, 0, none⟩)] #[], .func (.func 72) #[.pointer (some ⟨bx, 0, none⟩)] #[]] 94)) wr)
      case atStart => exact ⟨0, by omega, rfl, rfl, rfl, by omega, Below.refl _ _⟩
      case round =>
        obtain ⟨j, hj, rfl, rfl, rfl, hg, hbl⟩ := hrel
        have hb0 : Below w.heap.size w wr := (((Below.refl _ w).alloc (Nat.le_refl _) _).alloc (by simp) _).trans (hbl.mono (by omega))
        have hx' : wr.cell? ⟨bx, 1, none⟩ = some (.string s) := (hb0.cell (p := ⟨bx, 1, none⟩) hbx).trans hx
        have hm' : wr.cell? ⟨bx, 0, none⟩ = some (.map (some bm)) := (hb0.cell (p := ⟨bx, 0, none⟩) hbx).trans hm
        have hwz : w.heap.size + 2 ≤ wr.heap.size := by have := hbl.size; simp at this; omega
        have Hfin : Hid (∀ w1, Below wr.heap.size wr w1 → Below (w.heap.size + 2) _ w1) := fun w1 h => hbl.trans (h.mono hwz)
        rcases (show j = 0 ∨ j = 1 ∨ j = 2 ∨ j = 3 ∨ j = 4 by omega) with rfl | rfl | rfl | rfl | rfl
        · have hcj : wr.cell? ⟨w.heap.size + 1, 0, none⟩ = some (.func (.func 69) #[.pointer (some ⟨bx, 0, none⟩)] #[]) := (hbl.cell (p := ⟨w.heap.size + 1, 0, none⟩) (by simp)).trans (cells_at _ _ _ _ 0 (by simp))
          have HC := Lib.hid (names_calls bx s i (by omega) (by omega) wr hx' hs)
          rw [Int.toNat_natCast] at HC
          have Hstep : Hid (bestE s i 1 = if (bestE s i 0).2 < (readE s i 0).2 then readE s i 0 else bestE s i 0) := rfl
          have hr := readE_le s i hlt 0
          have hbe := bestE_le s i hlt 0
          change Hid (Calls _ _ _ _ fun r w' => r = .returned (.tuple #[.int .i64 (readE s i 0).1, .int .i64 (readE s i 0).2]) ∧ _) at HC
          generalize readE s i 0 = rr at HC Hstep hr
          generalize bestE s i 0 = be at Hstep hbe
          obtain ⟨rk, re⟩ := rr
          obtain ⟨bk, be⟩ := be
          by_cases hcmp : be < re
          · have hcz : (be : Int) < (re : Int) := by omega
            have Hn : Hid (bestE s i 1 = (rk, re)) := by have := Hstep.out; rw [if_pos hcmp] at this; exact this
            clear Hstep hcmp
            go_wp2_with (go_at_call 69; refine HC.out.mono ?_; rintro e w1 ⟨rfl, hb1⟩)
            go_roundg 3
            case measure => omega
            case rel => exact ⟨1, by omega, rfl, by rw [Hn.out], by rw [Hn.out], by omega, Hfin.out w1 (hb1.below)⟩
          · have hcz : ¬ (be : Int) < (re : Int) := by omega
            have Hn : Hid (bestE s i 1 = (bk, be)) := by have := Hstep.out; rw [if_neg hcmp] at this; exact this
            clear Hstep hcmp
            go_wp2_with (go_at_call 69; refine HC.out.mono ?_; rintro e w1 ⟨rfl, hb1⟩)
            go_roundg 3
            case measure => omega
            case rel => exact ⟨1, by omega, rfl, by rw [Hn.out], by rw [Hn.out], by omega, Hfin.out w1 (hb1.below)⟩
        · have hcj : wr.cell? ⟨w.heap.size + 1, 1, none⟩ = some (.func (.func 70) #[.pointer (some ⟨bx, 0, none⟩)] #[]) := (hbl.cell (p := ⟨w.heap.size + 1, 1, none⟩) (by simp)).trans (cells_at _ _ _ _ 1 (by simp))
          have HC := Lib.hid (variables_calls bx s i (by omega) (by omega) wr hx' hs)
          rw [Int.toNat_natCast] at HC
          have Hstep : Hid (bestE s i 2 = if (bestE s i 1).2 < (readE s i 1).2 then readE s i 1 else bestE s i 1) := rfl
          have hr := readE_le s i hlt 1
          have hbe := bestE_le s i hlt 1
          change Hid (Calls _ _ _ _ fun r w' => r = .returned (.tuple #[.int .i64 (readE s i 1).1, .int .i64 (readE s i 1).2]) ∧ _) at HC
          generalize readE s i 1 = rr at HC Hstep hr
          generalize bestE s i 1 = be at Hstep hbe
          obtain ⟨rk, re⟩ := rr
          obtain ⟨bk, be⟩ := be
          by_cases hcmp : be < re
          · have hcz : (be : Int) < (re : Int) := by omega
            have Hn : Hid (bestE s i 2 = (rk, re)) := by have := Hstep.out; rw [if_pos hcmp] at this; exact this
            clear Hstep hcmp
            go_wp2_with (go_at_call 70; refine HC.out.mono ?_; rintro e w1 ⟨rfl, hb1⟩)
            go_roundg 2
            case measure => omega
            case rel => exact ⟨2, by omega, rfl, by rw [Hn.out], by rw [Hn.out], by omega, Hfin.out w1 (hb1)⟩
          · have hcz : ¬ (be : Int) < (re : Int) := by omega
            have Hn : Hid (bestE s i 2 = (bk, be)) := by have := Hstep.out; rw [if_neg hcmp] at this; exact this
            clear Hstep hcmp
            go_wp2_with (go_at_call 70; refine HC.out.mono ?_; rintro e w1 ⟨rfl, hb1⟩)
            go_roundg 2
            case measure => omega
            case rel => exact ⟨2, by omega, rfl, by rw [Hn.out], by rw [Hn.out], by omega, Hfin.out w1 (hb1)⟩
        · have hcj : wr.cell? ⟨w.heap.size + 1, 2, none⟩ = some (.func (.func 71) #[.pointer (some ⟨bx, 0, none⟩)] #[]) := (hbl.cell (p := ⟨w.heap.size + 1, 2, none⟩) (by simp)).trans (cells_at _ _ _ _ 2 (by simp))
          have HC := Lib.hid (numbers_calls bx s i (by omega) wr hx' hs)
          rw [Int.toNat_natCast] at HC
          have Hstep : Hid (bestE s i 3 = if (bestE s i 2).2 < (readE s i 2).2 then readE s i 2 else bestE s i 2) := rfl
          have hr := readE_le s i hlt 2
          have hbe := bestE_le s i hlt 2
          change Hid (Calls _ _ _ _ fun r w' => r = .returned (.tuple #[.int .i64 (readE s i 2).1, .int .i64 (readE s i 2).2]) ∧ _) at HC
          generalize readE s i 2 = rr at HC Hstep hr
          generalize bestE s i 2 = be at Hstep hbe
          obtain ⟨rk, re⟩ := rr
          obtain ⟨bk, be⟩ := be
          by_cases hcmp : be < re
          · have hcz : (be : Int) < (re : Int) := by omega
            have Hn : Hid (bestE s i 3 = (rk, re)) := by have := Hstep.out; rw [if_pos hcmp] at this; exact this
            clear Hstep hcmp
            go_wp2_with (go_at_call 71; refine HC.out.mono ?_; rintro e w1 ⟨rfl, hb1⟩)
            go_roundg 1
            case measure => omega
            case rel => exact ⟨3, by omega, rfl, by rw [Hn.out], by rw [Hn.out], by omega, Hfin.out w1 (hb1.below)⟩
          · have hcz : ¬ (be : Int) < (re : Int) := by omega
            have Hn : Hid (bestE s i 3 = (bk, be)) := by have := Hstep.out; rw [if_neg hcmp] at this; exact this
            clear Hstep hcmp
            go_wp2_with (go_at_call 71; refine HC.out.mono ?_; rintro e w1 ⟨rfl, hb1⟩)
            go_roundg 1
            case measure => omega
            case rel => exact ⟨3, by omega, rfl, by rw [Hn.out], by rw [Hn.out], by omega, Hfin.out w1 (hb1.below)⟩
        · have hcj : wr.cell? ⟨w.heap.size + 1, 3, none⟩ = some (.func (.func 72) #[.pointer (some ⟨bx, 0, none⟩)] #[]) := (hbl.cell (p := ⟨w.heap.size + 1, 3, none⟩) (by simp)).trans (cells_at _ _ _ _ 3 (by simp))
          have HC := Lib.hid (symbols_calls bx s i (by omega) (by omega) wr hx' hs)
          rw [Int.toNat_natCast] at HC
          have Hstep : Hid (bestE s i 4 = if (bestE s i 3).2 < (readE s i 3).2 then readE s i 3 else bestE s i 3) := rfl
          have hr := readE_le s i hlt 3
          have hbe := bestE_le s i hlt 3
          change Hid (Calls _ _ _ _ fun r w' => r = .returned (.tuple #[.int .i64 (readE s i 3).1, .int .i64 (readE s i 3).2]) ∧ _) at HC
          generalize readE s i 3 = rr at HC Hstep hr
          generalize bestE s i 3 = be at Hstep hbe
          obtain ⟨rk, re⟩ := rr
          obtain ⟨bk, be⟩ := be
          by_cases hcmp : be < re
          · have hcz : (be : Int) < (re : Int) := by omega
            have Hn : Hid (bestE s i 4 = (rk, re)) := by have := Hstep.out; rw [if_pos hcmp] at this; exact this
            clear Hstep hcmp
            go_wp2_with (go_at_call 72; refine HC.out.mono ?_; rintro e w1 ⟨rfl, hb1⟩)
            go_roundg 0
            case measure => omega
            case rel => exact ⟨4, by omega, rfl, by rw [Hn.out], by rw [Hn.out], by omega, Hfin.out w1 (hb1.below)⟩
          · have hcz : ¬ (be : Int) < (re : Int) := by omega
            have Hn : Hid (bestE s i 4 = (bk, be)) := by have := Hstep.out; rw [if_neg hcmp] at this; exact this
            clear Hstep hcmp
            go_wp2_with (go_at_call 72; refine HC.out.mono ?_; rintro e w1 ⟨rfl, hb1⟩)
            go_roundg 0
            case measure => omega
            case rel => exact ⟨4, by omega, rfl, by rw [Hn.out], by rw [Hn.out], by omega, Hfin.out w1 (hb1.below)⟩
        · have hbe := bestE_le s i hlt 4
          generalize hbb : bestE s i 4 = be at hbe ⊢
          obtain ⟨k, e⟩ := be
          simp only at hbe ⊢
          replace Hnone := Lib.hid (Hnone.out k e hbb)
          replace Hsome := Lib.hid (Hsome.out k e hbb)
          clear hbb
          have he1 : (i : Int) ≤ (e : Int) := by omega
          have he2 : (e : Int) ≤ (s.size : Int) := by omega
          by_cases hei : e = i
          · have ge : ((e : Int) == (i : Int)) = true := by simp; omega
            obtain rfl := Hnone.out (.inl hei)
            clear hei Hnone Hsome
            go_wp2
            exact ⟨rfl, rfl, hb0⟩
          · have ge : ((e : Int) == (i : Int)) = false := by simp; omega
            replace Hsome := Lib.hid (Hsome.out hei)
            clear hei
            have htl : (s.extract i e).toList = (s.extract i e).data.toList := Lib.toList_data _
            have hk' : KwSet wr bm n p := hk.below hb0 hbm
            have hsz : (s.extract i e).size ≤ maxLen := by rw [ByteArray.size_extract]; unfold maxLen; omega
            have hlook := hk'.lookup (s.extract i e) hsz
            clear hk' hsz
            have hd0 : wr.cell? ⟨w.heap.size, 0, none⟩ = some (.int .i64 0) := (hbl.cell (p := ⟨w.heap.size, 0, none⟩) (by simp)).trans ((cell_old _ _ _ _ (by simp)).trans (cells_at w _ _ _ 0 rfl))
            have hd1 : wr.cell? ⟨w.heap.size, 1, none⟩ = some (.string ⟨#[]⟩) := (hbl.cell (p := ⟨w.heap.size, 1, none⟩) (by simp)).trans ((cell_old _ _ _ _ (by simp)).trans (cells_at w _ _ _ 1 rfl))
            have hd2 : wr.cell? ⟨w.heap.size, 2, none⟩ = some (.int .i64 0) := (hbl.cell (p := ⟨w.heap.size, 2, none⟩) (by simp)).trans ((cell_old _ _ _ _ (by simp)).trans (cells_at w _ _ _ 2 rfl))
            have hf1 : ∀ o, wr.frozen? ⟨w.heap.size, o, none⟩ = false := fun o => (hbl.frozen (p := ⟨w.heap.size, o, none⟩) (by simp)).trans ((frozen_old _ _ _ _ (by simp)).trans (frozen_at w _ _ _ o rfl))
            by_cases hcl : (s.extract i e).data.toList = closed
            · have gc : ((s.extract i e).toList == [92, 60, 99, 108, 111, 115, 101, 62]) = true := by rw [htl, hcl]; rfl
              obtain rfl := Hnone.out (.inr hcl)
              clear htl hcl Hsome hlook
              go_wp2
              exact ⟨rfl, rfl, hb0⟩
            · have gc : ((s.extract i e).toList == [92, 60, 99, 108, 111, 115, 101, 62]) = false := by
                rw [htl]; exact beq_eq_false_iff_ne.2 hcl
              replace Hsome := Lib.hid (Hsome.out hcl)
              clear htl hcl Hnone
              generalize (p (s.extract i e).data.toList) = kv at hlook Hsome
              by_cases hk1 : k = 1
              · subst hk1
                cases kv with
                | true =>
                  obtain rfl := Hsome.out
                  clear Hsome
                  go_wp2
                  refine bodyPost_ret (v := .tuple #[.agg #[.int .i64 10, .string (s.extract i e), .int .i64 i], .int .i64 e]) (by simp [results, Tryz.results48, go_sem, hd0, hd1, hd2]) rfl ⟨rfl, ?_⟩
                  exact ((hb0.setCell (p := ⟨w.heap.size, 0, none⟩) (Nat.le_refl _) _).setCell (p := ⟨w.heap.size, 1, none⟩) (Nat.le_refl _) _).setCell (p := ⟨w.heap.size, 2, none⟩) (Nat.le_refl _) _
                | false =>
                  obtain rfl := Hsome.out
                  clear Hsome
                  go_wp2
                  refine bodyPost_ret (v := .tuple #[.agg #[.int .i64 1, .string (s.extract i e), .int .i64 i], .int .i64 e]) (by simp [results, Tryz.results48, go_sem, hd0, hd1, hd2]) rfl ⟨rfl, ?_⟩
                  exact ((hb0.setCell (p := ⟨w.heap.size, 0, none⟩) (Nat.le_refl _) _).setCell (p := ⟨w.heap.size, 1, none⟩) (Nat.le_refl _) _).setCell (p := ⟨w.heap.size, 2, none⟩) (Nat.le_refl _) _
              · have gk1 : (k == 1) = false := by simpa using hk1
                by_cases hk7 : k = 7
                · subst hk7
                  clear hk1
                  cases kv with
                  | true =>
                    obtain rfl := Hsome.out
                    clear Hsome
                    go_wp2
                    refine bodyPost_ret (v := .tuple #[.agg #[.int .i64 10, .string (s.extract i e), .int .i64 i], .int .i64 e]) (by simp [results, Tryz.results48, go_sem, hd0, hd1, hd2]) rfl ⟨rfl, ?_⟩
                    exact ((hb0.setCell (p := ⟨w.heap.size, 0, none⟩) (Nat.le_refl _) _).setCell (p := ⟨w.heap.size, 1, none⟩) (Nat.le_refl _) _).setCell (p := ⟨w.heap.size, 2, none⟩) (Nat.le_refl _) _
                  | false =>
                    obtain rfl := Hsome.out
                    clear Hsome
                    go_wp2
                    refine bodyPost_ret (v := .tuple #[.agg #[.int .i64 7, .string (s.extract i e), .int .i64 i], .int .i64 e]) (by simp [results, Tryz.results48, go_sem, hd0, hd1, hd2]) rfl ⟨rfl, ?_⟩
                    exact ((hb0.setCell (p := ⟨w.heap.size, 0, none⟩) (Nat.le_refl _) _).setCell (p := ⟨w.heap.size, 1, none⟩) (Nat.le_refl _) _).setCell (p := ⟨w.heap.size, 2, none⟩) (Nat.le_refl _) _
                · have gk7 : (k == 7) = false := by simpa using hk7
                  have hE := Hsome.out
                  rw [if_neg (by omega)] at hE
                  obtain rfl := hE
                  clear Hsome hk1 hk7
                  go_wp2
                  refine bodyPost_ret (v := .tuple #[.agg #[.int .i64 k, .string (s.extract i e), .int .i64 i], .int .i64 e]) (by simp [results, Tryz.results48, go_sem, hd0, hd1, hd2]) rfl ⟨rfl, ?_⟩
                  exact ((hb0.setCell (p := ⟨w.heap.size, 0, none⟩) (Nat.le_refl _) _).setCell (p := ⟨w.heap.size, 1, none⟩) (Nat.le_refl _) _).setCell (p := ⟨w.heap.size, 2, none⟩) (Nat.le_refl _) _
end Go.Proofs.YtmkfeanggmjhmaaGreat.S
