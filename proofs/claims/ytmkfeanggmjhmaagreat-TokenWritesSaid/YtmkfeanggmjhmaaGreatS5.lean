/- Walk of the scanner: strings. -/
import Derived.Test.YtmkfeanggmjhmaaGreatS4
import Derived.Test.YtmkfeanggmjhmaaGreatBld
namespace Go.Proofs.YtmkfeanggmjhmaaGreat.S
open Go Go.RowKit Go.Proofs.YtmkfeanggmjhmaaGreatW.PrintWords Go.Proofs.YtmkfeanggmjhmaaGreatW.PrintLast Go.Proofs.YtmkfeanggmjhmaaGreatW.PrintMore
open Go.Proofs.YtmkfeanggmjhmaaGreat.M Go.Proofs.YtmkfeanggmjhmaaGreat.K
set_option linter.unusedSimpArgs false
set_option linter.unusedVariables false

def textR (i : Nat) : Option (List UInt8 × Nat) → Ending
  | some (l, j) => .returned (.tuple #[.agg #[.int .i64 8, .string ⟨l.toArray⟩, .int .i64 i], .int .i64 j])
  | none => stopE i 161

set_option maxHeartbeats 4000000 in
theorem text_calls (bx : Nat) (s : ByteArray) (i : Int) (h0 : 0 ≤ i) (hi : i < s.size) (w : World)
    (hx : w.cell? ⟨bx, 1, none⟩ = some (.string s)) (hs : s.size ≤ 1000000000000) :
    Calls Tryz.prog 68 #[.pointer (some ⟨bx, 0, none⟩), .int .i64 i] w fun r w' =>
      r = textR i.toNat (textE s (i.toNat + 1) []) ∧ Below w.heap.size w w' := by
  obtain ⟨i, rfl⟩ := Int.eq_ofNat_of_zero_le h0
  rw [Int.toNat_natCast]
  have hbx : bx < w.heap.size := lt_of_cell hx
  have hpan := run_panic_iface
  go_enter Tryz.func68, Tryz.ntmps68
  go_wp2
  have hfr := Bld.fresh (w.alloc (.cells #[.int .i64 0, .string ⟨#[]⟩, .int .i64 0] 30))
  rw [World.size_alloc] at hfr
  have Hfr := Lib.hid hfr
  clear hfr
  go_loopg [7] (s.size - i) (fun gg v wr => ∃ (k : Nat) (out : List UInt8), v = .int .i64 k ∧ i + 1 ≤ k ∧ k ≤ s.size ∧ out.length ≤ k ∧ s.size - k ≤ gg ∧ Hid (textE s (i + 1) [] = textE s k out) ∧
    Lib.IsBuilder 117 5 (w.heap.size + 1) (w.heap.size + 1) (Lib.byteCells out) wr ∧ w.heap.size + 1 ≤ wr.heap.size ∧
    Below (w.heap.size + 1) (w.alloc (.cells #[.int .i64 0, .string ⟨#[]⟩, .int .i64 0] 30)) wr)
  case atStart => exact ⟨i + 1, [], by go_num, Nat.le_refl _, by omega, by simp, by omega, rfl, Hfr.out, by simp, (Below.refl _ _).alloc (by simp) _⟩
  case round =>
    obtain ⟨k, out, rfl, hik, hk, hlen, hg, hw, hbu, hsz, hbl⟩ := hrel
    have hb0 : Below w.heap.size w wr := ((Below.refl _ w).alloc (Nat.le_refl _) _).trans (hbl.mono (by omega))
    have hx' : wr.cell? ⟨bx, 1, none⟩ = some (.string s) := (hb0.cell (p := ⟨bx, 1, none⟩) hbx).trans hx
    have hc0 : wr.cell? ⟨w.heap.size, 0, none⟩ = some (.int .i64 0) := (hbl.cell (p := ⟨w.heap.size, 0, none⟩) (by simp)).trans (cells_at w _ _ _ 0 rfl)
    have hc1 : wr.cell? ⟨w.heap.size, 1, none⟩ = some (.string ⟨#[]⟩) := (hbl.cell (p := ⟨w.heap.size, 1, none⟩) (by simp)).trans (cells_at w _ _ _ 1 rfl)
    have hc2 : wr.cell? ⟨w.heap.size, 2, none⟩ = some (.int .i64 0) := (hbl.cell (p := ⟨w.heap.size, 2, none⟩) (by simp)).trans (cells_at w _ _ _ 2 rfl)
    have hf0 : ∀ o, wr.frozen? ⟨w.heap.size, o, none⟩ = false := fun o => (hbl.frozen (p := ⟨w.heap.size, o, none⟩) (by simp)).trans (frozen_at w _ _ _ o rfl)
    have Hbu := Lib.hid hbu
    clear hbu
    have Hbl := Lib.hid hbl
    clear hbl
    have Hb0 := Lib.hid hb0
    clear hb0
    have hsz' : w.heap.size < wr.heap.size := by omega
    by_cases hlt : k < s.size
    · have hltz : (k : Int) < (s.size : Int) := by omega
      have Heq := Lib.hid (textE_eq s k out hlt)
      have hbt : bt s k = ((s[k]'hlt).toNat : Int) := by unfold bt; simp [hlt]
      have hb8 : (s[k]'hlt).toNat < 256 := (s[k]'hlt).toNat_lt
      have hcb : (bt s k).toNat.toUInt8 = s[k]'hlt := by rw [hbt, Int.toNat_natCast]; simp
      rw [hcb, hbt] at Heq
      clear hcb hbt
      have HWB := Lib.hid (fun (c : UInt8) => Bld.WriteByte_calls (w.heap.size + 1) (w.heap.size + 1) (Lib.byteCells out) (c.toNat : Int) wr Hbu.out (by rw [Lib.byteCells_length]; omega) hsz)
      have hbc : ∀ c : UInt8, Lib.byteCells out ++ [.int .u8 (c.toNat : Int)] = Lib.byteCells (out ++ [c]) := fun c => by simp [Lib.byteCells]
      have Hbc := Lib.hid hbc
      clear hbc
      by_cases hA : ((s[k]'hlt).toNat : Int) = 10
      · have gA : (((s[k]'hlt).toNat : Int) != 10) = false := by simp [hA]
        rw [if_pos hA] at Heq
        clear hA
        go_wp2
        refine ⟨rfl, ?_, Hb0.out⟩
        rw [hw.out, Heq.out]; rfl
      · have gA : (((s[k]'hlt).toNat : Int) != 10) = true := by simpa using hA
        rw [if_neg hA] at Heq
        clear hA
        by_cases hB : ((s[k]'hlt).toNat : Int) = 34
        · have gB : (((s[k]'hlt).toNat : Int) == 34) = true := by simp [hB]
          rw [if_pos hB] at Heq
          clear hB
          have HST := Lib.hid (Tryz.Builder_String_any (w.heap.size + 1) (w.heap.size + 1) out wr Hbu.out hsz)
          go_wp2_with fail
          refine HST.out.mono ?_
          rintro e w1 ⟨rfl, hb1⟩
          have hd0 : w1.cell? ⟨w.heap.size, 0, none⟩ = some (.int .i64 0) := (hb1.cell (p := ⟨w.heap.size, 0, none⟩) (by simp)).trans hc0
          have hd1 : w1.cell? ⟨w.heap.size, 1, none⟩ = some (.string ⟨#[]⟩) := (hb1.cell (p := ⟨w.heap.size, 1, none⟩) (by simp)).trans hc1
          have hd2 : w1.cell? ⟨w.heap.size, 2, none⟩ = some (.int .i64 0) := (hb1.cell (p := ⟨w.heap.size, 2, none⟩) (by simp)).trans hc2
          have hf1 : ∀ o, w1.frozen? ⟨w.heap.size, o, none⟩ = false := fun o => (hb1.frozen (p := ⟨w.heap.size, o, none⟩) (by simp)).trans (hf0 o)
          go_wp2
          refine bodyPost_ret (v := .tuple #[.agg #[.int .i64 8, .string ⟨out.toArray⟩, .int .i64 i], .int .i64 ((k + 1 : Nat) : Int)]) (by simp [results, Tryz.results68, go_sem, hd0, hd1, hd2]) rfl ⟨?_, ?_⟩
          · rw [hw.out, Heq.out]; rfl
          · exact ((((Hb0.out.trans (hb1.mono (by omega))).setCell (p := ⟨w.heap.size, 0, none⟩) (Nat.le_refl _) _).setCell (p := ⟨w.heap.size, 1, none⟩) (Nat.le_refl _) _).setCell (p := ⟨w.heap.size, 2, none⟩) (Nat.le_refl _) _)
        · have gB : (((s[k]'hlt).toNat : Int) == 34) = false := by simpa using hB
          rw [if_neg hB] at Heq
          clear hB
          by_cases hC : ((s[k]'hlt).toNat : Int) = 92
          · have gC : (((s[k]'hlt).toNat : Int) == 92) = true := by simp [hC]
            rw [if_pos hC] at Heq
            clear hC
            by_cases hl2 : k + 1 < s.size
            · have hl2z : ((k : Int) + 1 == (s.size : Int)) = false := by simp; omega
              have hl2y : (k : Int) + 1 < (s.size : Int) := by omega
              rw [if_pos hl2] at Heq
              have hbt : bt s ((k + 1 : Nat) : Int) = ((s[k + 1]'hl2).toNat : Int) := by unfold bt; simp [hl2]
              have hcb : (bt s ((k + 1 : Nat) : Int)).toNat.toUInt8 = s[k + 1]'hl2 := by rw [hbt, Int.toNat_natCast]; simp
              rw [hcb, hbt] at Heq
              clear hcb hbt
              by_cases hD : ((s[k + 1]'hl2).toNat : Int) = 110
              · have gD : (((s[k + 1]'hl2).toNat : Int) == 110) = true := by simp [hD]
                rw [if_pos hD] at Heq
                clear hD
                have HW10 := Lib.hid (HWB.out 10)
                have hbc := Hbc.out 10
                change Hid (Calls _ _ #[_, .int .u8 10] _ _) at HW10
                go_wp2_with (go_at_call 80; refine HW10.out.mono ?_; rintro e w1 ⟨rfl, hbu1, hb1⟩)
                go_roundg (s.size - (k + 2))
                case measure => omega
                case rel => exact ⟨k + 2, out ++ [10], by go_num, by omega, by omega, by simp; omega, Nat.le_refl _, Lib.hid (hw.out.trans Heq.out), by rw [← Hbc.out]; exact hbu1, by have := hb1.size; omega, Hbl.out.trans hb1⟩
              · have gD : (((s[k + 1]'hl2).toNat : Int) == 110) = false := by simpa using hD
                rw [if_neg hD] at Heq
                clear hD
                by_cases hE : ((s[k + 1]'hl2).toNat : Int) = 34
                · have gE : (((s[k + 1]'hl2).toNat : Int) != 34) = false := by simp [hE]
                  rw [if_pos (.inl hE)] at Heq
                  clear hE
                  go_wp2_with (go_at_call 80; refine (HWB.out _).mono ?_; rintro e w1 ⟨rfl, hbu1, hb1⟩)
                  go_roundg (s.size - (k + 2))
                  case measure => omega
                  case rel => exact ⟨k + 2, out ++ [s[k + 1]'hl2], by go_num, by omega, by omega, by simp; omega, Nat.le_refl _, Lib.hid (hw.out.trans Heq.out), by rw [← Hbc.out]; exact hbu1, by have := hb1.size; omega, Hbl.out.trans hb1⟩
                · have gE : (((s[k + 1]'hl2).toNat : Int) != 34) = true := by simpa using hE
                  by_cases hF : ((s[k + 1]'hl2).toNat : Int) = 92
                  · have gF : (((s[k + 1]'hl2).toNat : Int) != 92) = false := by simp [hF]
                    rw [if_pos (.inr hF)] at Heq
                    clear hE hF
                    go_wp2_with (go_at_call 80; refine (HWB.out _).mono ?_; rintro e w1 ⟨rfl, hbu1, hb1⟩)
                    go_roundg (s.size - (k + 2))
                    case measure => omega
                    case rel => exact ⟨k + 2, out ++ [s[k + 1]'hl2], by go_num, by omega, by omega, by simp; omega, Nat.le_refl _, Lib.hid (hw.out.trans Heq.out), by rw [← Hbc.out]; exact hbu1, by have := hb1.size; omega, Hbl.out.trans hb1⟩
                  · have gF : (((s[k + 1]'hl2).toNat : Int) != 92) = true := by simpa using hF
                    rw [if_neg (by omega)] at Heq
                    clear hE hF
                    go_wp2
                    refine ⟨rfl, ?_, Hb0.out⟩
                    rw [hw.out, Heq.out]; rfl
            · have hl2z : ((k : Int) + 1 == (s.size : Int)) = true := by simp; omega
              rw [if_neg hl2] at Heq
              go_wp2
              refine ⟨rfl, ?_, Hb0.out⟩
              rw [hw.out, Heq.out]; rfl
          · have gC : (((s[k]'hlt).toNat : Int) == 92) = false := by simpa using hC
            rw [if_neg hC] at Heq
            clear hC
            go_wp2_with (go_at_call 80; refine (HWB.out _).mono ?_; rintro e w1 ⟨rfl, hbu1, hb1⟩)
            go_roundg (s.size - (k + 1))
            case measure => omega
            case rel => exact ⟨k + 1, out ++ [s[k]'hlt], by go_num, by omega, by omega, by simp; omega, Nat.le_refl _, Lib.hid (hw.out.trans Heq.out), by rw [← Hbc.out]; exact hbu1, by have := hb1.size; omega, Hbl.out.trans hb1⟩
    · have hltz : ¬ (k : Int) < (s.size : Int) := by omega
      go_wp2
      refine ⟨rfl, ?_, Hb0.out⟩
      rw [hw.out, textE_end _ _ _ (by omega)]; rfl
end Go.Proofs.YtmkfeanggmjhmaaGreat.S
