/- Walk of strings.Replacer's Replace over a table of replacements. -/
import Derived.Test.YtmkfeanggmjhmaaGreatRp3
import Derived.Test.YtmkfeanggmjhmaaGreatShelf
import Derived.Laws.IdiomCopy
import Derived.RegionTactic
import Derived.RegionCalls
import Derived.WalkSmall
namespace Go.Proofs.YtmkfeanggmjhmaaGreat.Rp
open Go Go.RowKit
set_option linter.unusedSimpArgs false
set_option linter.unusedVariables false

theorem neq_nil (a : Option Addr) (l c : Nat) (w : World) : (binOp .neq 115 (.slice a l c) (.slice none 0 0)).run Tryz.prog w = .ok (.bool (!a.isNone)) w := run_neq_slice_nil w 115 5 a l c Tryz.underlying115
theorem make_bytes (n : Nat) (h : n ≤ 1000000000) (w : World) : (Instr.makeSlice 115 (.int .i64 (n : Int)) (.int .i64 (n : Int))).run Tryz.prog w = .ok (.slice (some ⟨w.heap.size, 0, none⟩) n n) (w.alloc (.cells (bufC [] n) 5)) := by
  obtain ⟨i0, hi, hz0, hz1, hz2⟩ := info_parts Bld.infoByte
  have := run_make (P := Tryz.prog) w 115 5 i0 _ Tryz.underlying115 hi hz0 .i64 .i64 (n : Int) (n : Int) (by omega) (Int.le_refl _) (by rw [hz2]; omega) (by omega)
  rw [hz1, Int.toNat_natCast, Nat.mul_one, made_bytes] at this
  rw [bufC_zero]
  exact this
theorem addr_add (k q : Nat) : (⟨k, 0, none⟩ : Addr).add q = ⟨k, q, none⟩ := by unfold Addr.add; split <;> simp_all
theorem escL_take_le (s : List UInt8) (i : Nat) : (escL (s.take i)).length ≤ (escL s).length := by
  have e : escL s = escL (s.take i) ++ escL (s.drop i) := by
    unfold escL
    rw [← List.flatMap_append, List.take_append_drop]
  rw [e, List.length_append]
  omega
theorem put_heap {w : World} {k j n : Nat} {done : List UInt8} {c : UInt8} (hh : w.heap[k]? = some (.cells (bufC done n) 5 (0, 0))) (hj : j = done.length) (h : done.length < n) :
    (w.setCell ⟨k, j, none⟩ (.int .u8 (c.toNat : Int))).heap[k]? = some (.cells (bufC (done ++ [c]) n) 5 (0, 0)) := by
  subst hj
  rw [setCell_eq_setRow w k _ _ 5 (0, 0) _ hh, bufC_put _ _ _ h]
  exact setRow_heap _ _ _ _ _ _ hh
theorem copy_two' (w : World) (k g j n m cap c2 : Nat) (d : UInt8) (done : List UInt8) (h : done.length + 2 ≤ n) (hj : j = done.length) (hm : m = n - j) (c0 : w.cell? ⟨g, 0, none⟩ = some (.int .u8 92)) (c1 : w.cell? ⟨g, 1, none⟩ = some (.int .u8 (d.toNat : Int)))
    (hk : w.heap[k]? = some (.cells (bufC done n) 5 (0, 0))) : (Builtin.copy_ #[115, 115] 3 #[.slice (some ⟨k, j, none⟩) m c2, .slice (some ⟨g, 0, none⟩) 2 cap]).run Tryz.prog w = .ok (.int .i64 2) ((w.setCell ⟨k, j, none⟩ (.int .u8 92)).setCell ⟨k, j + 1, none⟩ (.int .u8 (d.toNat : Int))) := by
  subst hj hm
  have := run_copy_cells (P := Tryz.prog) w 115 115 3 5 k done.length (n - done.length) c2 ⟨g, 0, none⟩ 2 cap [.int .u8 92, .int .u8 (d.toNat : Int)] Tryz.underlying115 (by kernel_rfl) (by show 2 = min 2 (n - done.length); omega)
    (by intro i v hi; match i, hi with | 0, hi => simp at hi; subst hi; simpa [Addr.add] using c0 | 1, hi => simp at hi; subst hi; simpa [Addr.add] using c1)
    (by intro i hi; have hi : i < 2 := hi; rw [Lib.cell_of_heap hk, Array.getElem?_eq_getElem (by rw [bufC_size done n (by omega)]; omega)]; rfl)
    (by intro i hi; exact Lib.frozen_of_heap hk _) (by intro v hv; simp at hv; rcases hv with rfl | rfl <;> rfl)
  rw [this]
  rfl
theorem tab_cell' {w wr : World} {bb nd : Nat} (hw : wr = w.drewN nd) (h : ∀ c : UInt8, match spec c with
    | none => w.cell? ⟨bb, c.toNat, none⟩ = some (.slice none 0 0)
    | some d => ∃ g cap, w.cell? ⟨bb, c.toNat, none⟩ = some (.slice (some ⟨g, 0, none⟩) 2 cap) ∧ w.cell? ⟨g, 0, none⟩ = some (.int .u8 92) ∧ w.cell? ⟨g, 1, none⟩ = some (.int .u8 (d.toNat : Int))) (c : UInt8) :
    match spec c with
    | none => wr.cell? ⟨bb, c.toNat, none⟩ = some (.slice none 0 0)
    | some d => ∃ g cap, wr.cell? ⟨bb, c.toNat, none⟩ = some (.slice (some ⟨g, 0, none⟩) 2 cap) ∧ wr.cell? ⟨g, 0, none⟩ = some (.int .u8 92) ∧ wr.cell? ⟨g, 1, none⟩ = some (.int .u8 (d.toNat : Int)) := by
  subst hw
  exact h c

set_option maxRecDepth 100000 in
set_option maxHeartbeats 4000000 in
theorem Replace_calls (B bb : Nat) (w : World) (T : Tab B bb full w) (s : ByteArray) (hs : s.size ≤ 1000000) :
    Calls Tryz.prog 147 #[.pointer (some ⟨bb, 0, none⟩), .string s] w fun r w' => r = .returned (.string ⟨(escL s.data.toList).toArray⟩) ∧ Below w.heap.size w w' := by
  obtain ⟨h, cap, t0, t1, t2, t3⟩ := tab_strs T
  have HT := Lib.hid (tab_cell T)
  have hcl := cnt_le s.data.toList
  have hsl : s.data.toList.length = s.size := rfl
  have HL := Lib.hid (escL_len s.data.toList)
  have HS := Lib.hid (cnt_split s.data.toList)
  have hnq := neq_nil
  have hnot : ∀ (x : Bool) (w : World), (Op.unary .not (.bool x)).run Tryz.prog w = .ok (.bool (!x)) w := fun _ _ => rfl
  clear T
  by_cases h24 : 24 ≤ s.size
  · have g24 : (24 : Int) ≤ (s.size : Int) := by omega
    go_enter Tryz.func147, Tryz.ntmps147
    go_wp2
    have HC10 := Lib.hid (fun w => Tryz.strings_Count_one s 10 w)
    have HC92 := Lib.hid (fun w => Tryz.strings_Count_one s 92 w)
    have HC34 := Lib.hid (fun w => Tryz.strings_Count_one s 34 w)
    unfold Lib.countByte at HC10 HC92 HC34
    have l10 : s.data.toList.count 10 ≤ s.size := by rw [← hsl]; exact List.count_le_length
    have l92 : s.data.toList.count 92 ≤ s.size := by rw [← hsl]; exact List.count_le_length
    have l34 : s.data.toList.count 34 ≤ s.size := by rw [← hsl]; exact List.count_le_length
    generalize s.data.toList.count 10 = k10 at HC10 HS l10
    generalize s.data.toList.count 92 = k92 at HC92 HS l92
    generalize s.data.toList.count 34 = k34 at HC34 HS l34
    have h10 := HT.out 10
    have h92 := HT.out 92
    have h34 := HT.out 34
    obtain ⟨g10, c10, a10, _, _⟩ := h10
    obtain ⟨g92, c92, a92, _, _⟩ := h92
    obtain ⟨g34, c34, a34, _, _⟩ := h34
    have b10 : ((⟨#[10]⟩ : ByteArray)[0]'(by decide)).toNat = 10 := rfl
    have b92 : ((⟨#[92]⟩ : ByteArray)[0]'(by decide)).toNat = 92 := rfl
    have b34 : ((⟨#[34]⟩ : ByteArray)[0]'(by decide)).toNat = 34 := rfl
    have a10' : w.cell? ⟨bb, 10, none⟩ = _ := a10
    have a92' : w.cell? ⟨bb, 92, none⟩ = _ := a92
    have a34' : w.cell? ⟨bb, 34, none⟩ = _ := a34
    clear a10 a92 a34
    go_loopg [5, 6, 32] 4 (fun gg v5 v6 v32 wr => Hid (∃ nd, wr = w.drewN nd) ∧ ∃ m : Nat, v5 = .int .i64 ((s.size + m : Nat) : Int) ∧ v6 = .bool (decide (0 < m)) ∧ ((v32 = .int .i64 0 ∧ m = 0 ∧ 4 ≤ gg) ∨ (v32 = .int .i64 1 ∧ m = k10 ∧ 3 ≤ gg) ∨ (v32 = .int .i64 2 ∧ m = k10 + k92 ∧ 2 ≤ gg) ∨ (v32 = .int .i64 3 ∧ m = k10 + k92 + k34)))
    case atStart => exact ⟨⟨0, rfl⟩, 0, by simp, rfl, .inl ⟨rfl, rfl, Nat.le_refl _⟩⟩
    case round =>
      obtain ⟨HW, m, rfl, rfl, hrel⟩ := hrel
      have hw := HW.out
      obtain ⟨nd, hw⟩ := hw
      have q0 : wr.cell? ⟨bb, 256, none⟩ = _ := (congrArg (fun x => World.cell? x ⟨bb, 256, none⟩) hw).trans t0
      have q1 : wr.cell? ⟨h, 0, none⟩ = _ := (congrArg (fun x => World.cell? x ⟨h, 0, none⟩) hw).trans t1
      have q2 : wr.cell? ⟨h, 1, none⟩ = _ := (congrArg (fun x => World.cell? x ⟨h, 1, none⟩) hw).trans t2
      have q3 : wr.cell? ⟨h, 2, none⟩ = _ := (congrArg (fun x => World.cell? x ⟨h, 2, none⟩) hw).trans t3
      have r10 : wr.cell? ⟨bb, 10, none⟩ = _ := (congrArg (fun x => World.cell? x ⟨bb, 10, none⟩) hw).trans a10'
      have r92 : wr.cell? ⟨bb, 92, none⟩ = _ := (congrArg (fun x => World.cell? x ⟨bb, 92, none⟩) hw).trans a92'
      have r34 : wr.cell? ⟨bb, 34, none⟩ = _ := (congrArg (fun x => World.cell? x ⟨bb, 34, none⟩) hw).trans a34'
      have Hw := Lib.hid hw
      clear hw HW t1 t2 t3 t0 a10' a92' a34'
      rcases hrel with ⟨rfl, hm, hg⟩ | ⟨rfl, hm, hg⟩ | ⟨rfl, hm, hg⟩ | ⟨rfl, hm⟩
      · subst hm
        by_cases h0 : k10 = 0
        · have g0 : (((k10 : Nat) : Int) != 0) = false := by simp [h0]
          go_wp2_with (first | (go_at_call 149; refine (HC10.out _).mono ?_; rintro e w' ⟨rfl, hw'⟩; cases hw'))
          go_roundg 3
          case measure => omega
          case rel => exact ⟨⟨nd, Hw.out⟩, 0, by first | rfl | simp, by first | rfl | (simp; done) | (simp; omega), .inr (.inl ⟨rfl, by omega, Nat.le_refl _⟩)⟩
        · have g0 : (((k10 : Nat) : Int) != 0) = true := by simp [h0]
          go_wp2_with (first | (go_at_call 149; refine (HC10.out _).mono ?_; rintro e w' ⟨rfl, hw'⟩; cases hw'))
          go_region
          all_goals
            go_wp2
            go_roundg 3
            case measure => omega
            case rel => exact ⟨⟨nd + 1, by rw [Hw.out]; rfl⟩, k10, by go_num, by first | rfl | (simp; done) | (simp; omega), .inr (.inl ⟨rfl, rfl, Nat.le_refl _⟩)⟩
      · subst hm
        by_cases h0 : k92 = 0
        · have g0 : (((k92 : Nat) : Int) != 0) = false := by simp [h0]
          go_wp2_with (first | (go_at_call 149; refine (HC92.out _).mono ?_; rintro e w' ⟨rfl, hw'⟩; cases hw'))
          go_roundg 2
          case measure => omega
          case rel => exact ⟨⟨nd, Hw.out⟩, m, by first | rfl | simp, by first | rfl | (simp; done) | (simp; omega), .inr (.inr (.inl ⟨rfl, by omega, Nat.le_refl _⟩))⟩
        · have g0 : (((k92 : Nat) : Int) != 0) = true := by simp [h0]
          go_wp2_with (first | (go_at_call 149; refine (HC92.out _).mono ?_; rintro e w' ⟨rfl, hw'⟩; cases hw'))
          go_region
          all_goals
            go_wp2
            go_roundg 2
            case measure => omega
            case rel => exact ⟨⟨nd + 1, by rw [Hw.out]; rfl⟩, m + k92, by go_num, by first | rfl | (simp; done) | (simp; omega), .inr (.inr (.inl ⟨rfl, rfl, Nat.le_refl _⟩))⟩
      · subst hm
        by_cases h0 : k34 = 0
        · have g0 : (((k34 : Nat) : Int) != 0) = false := by simp [h0]
          go_wp2_with (first | (go_at_call 149; refine (HC34.out _).mono ?_; rintro e w' ⟨rfl, hw'⟩; cases hw'))
          go_roundg 1
          case measure => omega
          case rel => exact ⟨⟨nd, Hw.out⟩, k10 + k92, by first | rfl | simp, by first | rfl | (simp; done) | (simp; omega), .inr (.inr (.inr ⟨rfl, by omega⟩))⟩
        · have g0 : (((k34 : Nat) : Int) != 0) = true := by simp [h0]
          go_wp2_with (first | (go_at_call 149; refine (HC34.out _).mono ?_; rintro e w' ⟨rfl, hw'⟩; cases hw'))
          go_region
          all_goals
            go_wp2
            go_roundg 1
            case measure => omega
            case rel => exact ⟨⟨nd + 1, by rw [Hw.out]; rfl⟩, k10 + k92 + k34, by go_num, by first | rfl | (simp; done) | (simp; omega), .inr (.inr (.inr ⟨rfl, rfl⟩))⟩
      · have hm' : m = cnt s.data.toList := by rw [HS.out]; exact hm
        clear hm
        have hmc : m ≤ s.size := by omega
        have Hm := Lib.hid hm'
        clear hm'
        have HT' := Lib.hid (fun c => (tab_cell' Hw.out HT.out c))
        by_cases h0 : m = 0
        · subst h0
          go_wp2
          go_ret
          refine ⟨?_, by rw [Hw.out]; exact below_drewN (Below.refl _ _) nd⟩
          rw [escL_same _ Hm.out.symm]
          rfl
        · have g0 : decide (0 < m) = true := by simpa using Nat.pos_of_ne_zero h0
          have hmk := make_bytes (s.size + m) (by omega)
          simp only [Int.natCast_add] at hmk
          have hW1 : ∃ W1, W1 = wr := ⟨_, rfl⟩
          obtain ⟨W1, hW1⟩ := hW1
          subst hW1
          go_wp2
          have Hs := Lib.hid (bufC_size [] (s.size + m) (Nat.zero_le _))
          go_loopg [13, 14] s.size (fun gg v13 v14 wx => ∃ i j : Nat, i ≤ s.size ∧ s.size - i ≤ gg ∧ v14 = .int .i64 i ∧ v13 = .int .i64 j ∧ Hid (j = (escL (s.data.toList.take i)).length) ∧ j ≤ s.size + m ∧ Hid (Below W1.heap.size W1 wx) ∧
            Hid (wx.heap[W1.heap.size]? = some (.cells (bufC (escL (s.data.toList.take i)) (s.size + m)) 5 (0, 0))))
          case atStart => exact ⟨0, 0, Nat.zero_le _, Nat.le_refl _, rfl, rfl, rfl, Nat.zero_le _, Lib.hid ((Below.refl _ _).alloc (Nat.le_refl _) _), Lib.hid (World.alloc_heap_new _ _)⟩
          case round =>
            obtain ⟨i, j, hi, hgg, rfl, rfl, Hj, hjn, HB, Hk⟩ := hrel
            by_cases hlt : i < s.size
            · have hltz : (i : Int) < (s.size : Int) := by omega
              have Htake := Lib.hid (escL_take s.data.toList i hlt)
              have hle := escL_take_le s.data.toList (i + 1)
              rw [HL.out, hsl, ← Hm.out] at hle
              have hx := HT'.out (s.data.toList[i]'hlt)
              have hgx : (s[i]'hlt) = s.data.toList[i]'hlt := rfl
              rw [Htake.out, List.length_append, ← Hj.out] at hle
              have Hgx := Lib.hid hgx
              generalize hX : s.data.toList[i]'hlt = x at hx Htake hle Hgx
              clear hX hgx
              have hgx := Hgx.out
              have hx256 : (x.toNat : Int) < 256 := by have := x.toNat_lt; omega
              unfold esc at Htake hle
              cases hsp : spec x with
              | none =>
                rw [hsp] at hx Htake hle
                simp only [List.length_cons, List.length_nil] at hx hle Htake
                have hxc : wr.cell? ⟨bb, x.toNat, none⟩ = some (.slice none 0 0) := (HB.out.cell (p := ⟨bb, x.toNat, none⟩) (K.lt_of_cell hx)).trans hx
                have hf0 : wr.frozen? ⟨W1.heap.size, j, none⟩ = false := Lib.frozen_of_heap Hk.out _
                obtain ⟨v0, hv0⟩ : ∃ v0, wr.cell? ⟨W1.heap.size, j, none⟩ = some v0 := by
                  rw [Lib.cell_of_heap Hk.out, Array.getElem?_eq_getElem (by rw [bufC_size _ _ (by rw [← Hj.out]; exact hjn)]; omega)]
                  exact ⟨_, rfl⟩
                clear hx
                go_wp2
                go_roundg (s.size - (i + 1))
                case measure => omega
                case rel =>
                  exact ⟨i + 1, j + 1, by omega, Nat.le_refl _, by go_num, by go_num, Lib.hid (by rw [Htake.out, List.length_append, ← Hj.out]; rfl), by omega, Lib.hid (HB.out.setCell (p := ⟨W1.heap.size, j, none⟩) (Nat.le_refl _) _),
                    Lib.hid (by rw [Htake.out]; exact put_heap Hk.out Hj.out (by rw [← Hj.out]; omega))⟩
              | some d =>
                rw [hsp] at hx Htake hle
                simp only [List.length_cons, List.length_nil] at hx hle Htake
                obtain ⟨g, cp, hx0, hx1, hx2⟩ := hx
                have y0 : wr.cell? ⟨bb, x.toNat, none⟩ = some (.slice (some ⟨g, 0, none⟩) 2 cp) := (HB.out.cell (p := ⟨bb, x.toNat, none⟩) (K.lt_of_cell hx0)).trans hx0
                have y1 : wr.cell? ⟨g, 0, none⟩ = some (.int .u8 92) := (HB.out.cell (p := ⟨g, 0, none⟩) (K.lt_of_cell hx1)).trans hx1
                have y2 : wr.cell? ⟨g, 1, none⟩ = some (.int .u8 (d.toNat : Int)) := (HB.out.cell (p := ⟨g, 1, none⟩) (K.lt_of_cell hx2)).trans hx2
                have hjlt : (j : Int) < (s.size : Int) + (m : Int) := by omega
                have hcp := copy_two' wr.drew W1.heap.size g j (s.size + m) (s.size + m - j) cp (s.size + m - j) d _ (by rw [← Hj.out]; omega) Hj.out rfl y1 y2 Hk.out
                clear hx0 hx1 hx2 y1 y2
                go_wp2
                go_region
                all_goals
                  go_wp2
                  go_roundg (s.size - (i + 1))
                  case measure => omega
                  case rel =>
                    have hb2 := (HB.out.setCell (p := ⟨W1.heap.size, j, none⟩) (Nat.le_refl _) (.int .u8 92)).setCell (p := ⟨W1.heap.size, j + 1, none⟩) (Nat.le_refl _) (.int .u8 (d.toNat : Int))
                    have hp1 := put_heap (c := 92) Hk.out Hj.out (by rw [← Hj.out]; omega)
                    have hp2 := put_heap (j := j + 1) (c := d) hp1 (by rw [List.length_append, ← Hj.out]; rfl) (by rw [List.length_append, ← Hj.out]; simp only [List.length_cons, List.length_nil]; omega)
                    rw [List.append_assoc] at hp2
                    exact ⟨i + 1, j + 2, by omega, Nat.le_refl _, by go_num, by go_num, Lib.hid (by rw [Htake.out, List.length_append, ← Hj.out]; rfl), by omega, Lib.hid ⟨hb2.os, hb2.tape, hb2.output, hb2.size, hb2.block⟩,
                      Lib.hid (by rw [Htake.out]; exact hp2)⟩
            · have hltz : ¬ (i : Int) < (s.size : Int) := by omega
              obtain rfl : i = s.size := by omega
              have htk : s.data.toList.take s.size = s.data.toList := List.take_of_length_le (Nat.le_refl _)
              rw [htk] at Hj Hk
              have hbl : (escL s.data.toList).length = s.size + m := by rw [HL.out, hsl, ← Hm.out]
              have hcv := run_convert_bytes_back (P := Tryz.prog) wr 115 9 5 ⟨W1.heap.size, 0, none⟩ (s.size + m) (escL s.data.toList) Tryz.underlying115 Tryz.underlying5 Tryz.underlying9 (by
                intro q hq
                rw [addr_add, Lib.cell_of_heap Hk.out, bufC_full _ _ hbl, List.getElem?_toArray]
                unfold Lib.byteCells
                rw [List.getElem?_map, List.getElem?_eq_getElem hq]
                rfl)
              rw [hbl] at hcv
              have HW2 := Lib.hid Hw.out
              clear hbl htk Hj
              go_wp2
              go_ret
              refine ⟨rfl, ?_⟩
              have z1 : W1.heap.size = w.heap.size := by rw [Hw.out]; rfl
              have hb0 : Below w.heap.size w W1 := by rw [Hw.out]; exact below_drewN (Below.refl _ _) nd
              exact hb0.trans (HB.out.mono (by omega))
  · have g24 : ¬ (24 : Int) ≤ (s.size : Int) := by omega
    go_enter Tryz.func147, Tryz.ntmps147
    go_wp2
    go_loopg [5, 6, 10] s.size (fun gg v5 v6 v10 wr => Hid (∃ nd, wr = w.drewN nd) ∧ ∃ i m : Nat, i ≤ s.size ∧ s.size - i ≤ gg ∧ v10 = .int .i64 i ∧ m ≤ i ∧ v5 = .int .i64 ((s.size + m : Nat) : Int) ∧ v6 = .bool (decide (0 < m)) ∧ Hid (m = cnt (s.data.toList.take i)))
    case atStart => exact ⟨⟨0, rfl⟩, 0, 0, Nat.zero_le _, Nat.le_refl _, rfl, Nat.le_refl _, by simp, rfl, rfl⟩
    case round =>
      obtain ⟨HW, i, m, hi, hgg, rfl, hmi, rfl, rfl, HM⟩ := hrel
      have hw := HW.out
      obtain ⟨nd, hw⟩ := hw
      have Hw := Lib.hid hw
      have q0 : wr.cell? ⟨bb, 256, none⟩ = _ := (congrArg (fun x => World.cell? x ⟨bb, 256, none⟩) hw).trans t0
      clear hw HW t1 t2 t3 t0
      by_cases hlt : i < s.size
      · have hltz : (i : Int) < (s.size : Int) := by omega
        have Htake := Lib.hid (cnt_take s.data.toList i hlt)
        have hx := tab_cell' Hw.out HT.out (s.data.toList[i]'hlt)
        have hgx : (s[i]'hlt) = s.data.toList[i]'hlt := rfl
        generalize s.data.toList[i]'hlt = x at hx Htake hgx
        have hx256 : (x.toNat : Int) < 256 := by have := x.toNat_lt; omega
        cases hsp : spec x with
        | none =>
          rw [hsp] at hx Htake
          simp only at hx
          clear hsp
          go_wp2
          go_roundg (s.size - (i + 1))
          case measure => omega
          case rel => exact ⟨⟨nd, Hw.out⟩, i + 1, m, by omega, Nat.le_refl _, by go_num, by omega, rfl, rfl, Lib.hid (by rw [Htake.out, HM.out]; rfl)⟩
        | some d =>
          rw [hsp] at hx Htake
          simp only at hx
          obtain ⟨g, cp, hx0, hx1, hx2⟩ := hx
          clear hsp hx1 hx2
          go_wp2
          (try go_region)
          all_goals
            (try go_wp2)
            go_roundg (s.size - (i + 1))
            case measure => omega
            case rel => exact ⟨by first | exact ⟨nd, Hw.out⟩ | exact ⟨nd + 1, by rw [Hw.out]; rfl⟩, i + 1, m + 1, by omega, Nat.le_refl _, by go_num, by omega, by go_num, by simp, Lib.hid (by rw [Htake.out, HM.out]; rfl)⟩
      · have hltz : ¬ (i : Int) < (s.size : Int) := by omega
        obtain rfl : i = s.size := by omega
        have htk : s.data.toList.take s.size = s.data.toList := List.take_of_length_le (Nat.le_refl _)
        rw [htk] at HM
        have hm' := HM.out
        clear HM htk hi hgg hmi hltz
        have hmc : m ≤ s.size := by omega
        have Hm := Lib.hid hm'
        clear hm'
        have HT' := Lib.hid (fun c => (tab_cell' Hw.out HT.out c))
        by_cases h0 : m = 0
        · subst h0
          go_wp2
          go_ret
          refine ⟨?_, by rw [Hw.out]; exact below_drewN (Below.refl _ _) nd⟩
          rw [escL_same _ Hm.out.symm]
          rfl
        · have g0 : decide (0 < m) = true := by simpa using Nat.pos_of_ne_zero h0
          have hmk := make_bytes (s.size + m) (by omega)
          simp only [Int.natCast_add] at hmk
          have hW1 : ∃ W1, W1 = wr := ⟨_, rfl⟩
          obtain ⟨W1, hW1⟩ := hW1
          subst hW1
          go_wp2
          have Hs := Lib.hid (bufC_size [] (s.size + m) (Nat.zero_le _))
          go_loopg [13, 14] s.size (fun gg v13 v14 wx => ∃ i j : Nat, i ≤ s.size ∧ s.size - i ≤ gg ∧ v14 = .int .i64 i ∧ v13 = .int .i64 j ∧ Hid (j = (escL (s.data.toList.take i)).length) ∧ j ≤ s.size + m ∧ Hid (Below W1.heap.size W1 wx) ∧
            Hid (wx.heap[W1.heap.size]? = some (.cells (bufC (escL (s.data.toList.take i)) (s.size + m)) 5 (0, 0))))
          case atStart => exact ⟨0, 0, Nat.zero_le _, Nat.le_refl _, rfl, rfl, rfl, Nat.zero_le _, Lib.hid ((Below.refl _ _).alloc (Nat.le_refl _) _), Lib.hid (World.alloc_heap_new _ _)⟩
          case round =>
            obtain ⟨i, j, hi, hgg, rfl, rfl, Hj, hjn, HB, Hk⟩ := hrel
            by_cases hlt : i < s.size
            · have hltz : (i : Int) < (s.size : Int) := by omega
              have Htake := Lib.hid (escL_take s.data.toList i hlt)
              have hle := escL_take_le s.data.toList (i + 1)
              rw [HL.out, hsl, ← Hm.out] at hle
              have hx := HT'.out (s.data.toList[i]'hlt)
              have hgx : (s[i]'hlt) = s.data.toList[i]'hlt := rfl
              rw [Htake.out, List.length_append, ← Hj.out] at hle
              have Hgx := Lib.hid hgx
              generalize hX : s.data.toList[i]'hlt = x at hx Htake hle Hgx
              clear hX hgx
              have hgx := Hgx.out
              have hx256 : (x.toNat : Int) < 256 := by have := x.toNat_lt; omega
              unfold esc at Htake hle
              cases hsp : spec x with
              | none =>
                rw [hsp] at hx Htake hle
                simp only [List.length_cons, List.length_nil] at hx hle Htake
                have hxc : wr.cell? ⟨bb, x.toNat, none⟩ = some (.slice none 0 0) := (HB.out.cell (p := ⟨bb, x.toNat, none⟩) (K.lt_of_cell hx)).trans hx
                have hf0 : wr.frozen? ⟨W1.heap.size, j, none⟩ = false := Lib.frozen_of_heap Hk.out _
                obtain ⟨v0, hv0⟩ : ∃ v0, wr.cell? ⟨W1.heap.size, j, none⟩ = some v0 := by
                  rw [Lib.cell_of_heap Hk.out, Array.getElem?_eq_getElem (by rw [bufC_size _ _ (by rw [← Hj.out]; exact hjn)]; omega)]
                  exact ⟨_, rfl⟩
                clear hx
                go_wp2
                go_roundg (s.size - (i + 1))
                case measure => omega
                case rel =>
                  exact ⟨i + 1, j + 1, by omega, Nat.le_refl _, by go_num, by go_num, Lib.hid (by rw [Htake.out, List.length_append, ← Hj.out]; rfl), by omega, Lib.hid (HB.out.setCell (p := ⟨W1.heap.size, j, none⟩) (Nat.le_refl _) _),
                    Lib.hid (by rw [Htake.out]; exact put_heap Hk.out Hj.out (by rw [← Hj.out]; omega))⟩
              | some d =>
                rw [hsp] at hx Htake hle
                simp only [List.length_cons, List.length_nil] at hx hle Htake
                obtain ⟨g, cp, hx0, hx1, hx2⟩ := hx
                have y0 : wr.cell? ⟨bb, x.toNat, none⟩ = some (.slice (some ⟨g, 0, none⟩) 2 cp) := (HB.out.cell (p := ⟨bb, x.toNat, none⟩) (K.lt_of_cell hx0)).trans hx0
                have y1 : wr.cell? ⟨g, 0, none⟩ = some (.int .u8 92) := (HB.out.cell (p := ⟨g, 0, none⟩) (K.lt_of_cell hx1)).trans hx1
                have y2 : wr.cell? ⟨g, 1, none⟩ = some (.int .u8 (d.toNat : Int)) := (HB.out.cell (p := ⟨g, 1, none⟩) (K.lt_of_cell hx2)).trans hx2
                have hjlt : (j : Int) < (s.size : Int) + (m : Int) := by omega
                have hcp := copy_two' wr.drew W1.heap.size g j (s.size + m) (s.size + m - j) cp (s.size + m - j) d _ (by rw [← Hj.out]; omega) Hj.out rfl y1 y2 Hk.out
                clear hx0 hx1 hx2 y1 y2
                go_wp2
                go_region
                all_goals
                  go_wp2
                  go_roundg (s.size - (i + 1))
                  case measure => omega
                  case rel =>
                    have hb2 := (HB.out.setCell (p := ⟨W1.heap.size, j, none⟩) (Nat.le_refl _) (.int .u8 92)).setCell (p := ⟨W1.heap.size, j + 1, none⟩) (Nat.le_refl _) (.int .u8 (d.toNat : Int))
                    have hp1 := put_heap (c := 92) Hk.out Hj.out (by rw [← Hj.out]; omega)
                    have hp2 := put_heap (j := j + 1) (c := d) hp1 (by rw [List.length_append, ← Hj.out]; rfl) (by rw [List.length_append, ← Hj.out]; simp only [List.length_cons, List.length_nil]; omega)
                    rw [List.append_assoc] at hp2
                    exact ⟨i + 1, j + 2, by omega, Nat.le_refl _, by go_num, by go_num, Lib.hid (by rw [Htake.out, List.length_append, ← Hj.out]; rfl), by omega, Lib.hid ⟨hb2.os, hb2.tape, hb2.output, hb2.size, hb2.block⟩,
                      Lib.hid (by rw [Htake.out]; exact hp2)⟩
            · have hltz : ¬ (i : Int) < (s.size : Int) := by omega
              obtain rfl : i = s.size := by omega
              have htk : s.data.toList.take s.size = s.data.toList := List.take_of_length_le (Nat.le_refl _)
              rw [htk] at Hj Hk
              have hbl : (escL s.data.toList).length = s.size + m := by rw [HL.out, hsl, ← Hm.out]
              have hcv := run_convert_bytes_back (P := Tryz.prog) wr 115 9 5 ⟨W1.heap.size, 0, none⟩ (s.size + m) (escL s.data.toList) Tryz.underlying115 Tryz.underlying5 Tryz.underlying9 (by
                intro q hq
                rw [addr_add, Lib.cell_of_heap Hk.out, bufC_full _ _ hbl, List.getElem?_toArray]
                unfold Lib.byteCells
                rw [List.getElem?_map, List.getElem?_eq_getElem hq]
                rfl)
              rw [hbl] at hcv
              have HW2 := Lib.hid Hw.out
              clear hbl htk Hj
              go_wp2
              go_ret
              refine ⟨rfl, ?_⟩
              have z1 : W1.heap.size = w.heap.size := by rw [Hw.out]; rfl
              have hb0 : Below w.heap.size w W1 := by rw [Hw.out]; exact below_drewN (Below.refl _ _) nd
              exact hb0.trans (HB.out.mono (by omega))
end Go.Proofs.YtmkfeanggmjhmaaGreat.Rp
