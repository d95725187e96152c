/- Texts of this claim, one behind the other: S5, Kw, S6, S7, S8, S9, S10, Rp2. -/
import Derived.Test.YtmkfeanggmjhmaaGreatTokenWritesV2
import Derived.Maps.OwnOps
import Derived.Maps.OwnSet
import Derived.Maps.Views
import Derived.Test.YtmkfeanggmjhmaaGreatProg
import Derived.KernelRfl
import Derived.Carry
import Derived.Maps.AppendAt
import Derived.RecoverIn
import Derived.BigRegionIn
import Derived.BigFrameIn
import Derived.Maps.OwnIn
import Derived.Laws.Tables
import Derived.Laws.Rows
import Derived.Laws.Cover3
import Derived.Deep.WholeRow
import Derived.Deep.LoopGhost
import Derived.Lib.ConvBytes
import Derived.Laws.MakeOwn
import Derived.Laws.IdiomStrings
import Derived.Laws.BytesString
/- Walk of the scanner: strings. -/
namespace Go.Proofs.YtmkfeanggmjhmaaGreat.S
open Go Go.RowKit Go.Proofs.YtmkfeanggmjhmaaGreatW.PrintWords Go.Proofs.YtmkfeanggmjhmaaGreatW.PrintLast Go.Proofs.YtmkfeanggmjhmaaGreatW.PrintMore
open Go.Proofs.YtmkfeanggmjhmaaGreat.M Go.Proofs.YtmkfeanggmjhmaaGreat.K
set_option linter.unusedSimpArgs false
set_option linter.unusedVariables false

def textR (i : Nat) : Option (List UInt8 × Nat) → Ending
  | some (l, j) => .returned (.tuple #[.agg #[.int .i64 8, .string ⟨l.toArray⟩, .int .i64 i], .int .i64 j])
  | none => stopE i 161

set_option maxHeartbeats 4000000 in
theorem text_calls (bx : Nat) (s : ByteArray) (i : Int) (h0 : 0 ≤ i) (hi : i < s.size) (w : World)
    (hx : w.cell? ⟨bx, 1, none⟩ = some (.string s)) (hs : s.size ≤ 1000000000000) :
    Calls Tryz.prog 68 #[.pointer (some ⟨bx, 0, none⟩), .int .i64 i] w fun r w' =>
      r = textR i.toNat (textE s (i.toNat + 1) []) ∧ Below w.heap.size w w' := by
  obtain ⟨i, rfl⟩ := Int.eq_ofNat_of_zero_le h0
  rw [Int.toNat_natCast]
  have hbx : bx < w.heap.size := lt_of_cell hx
  have hpan := run_panic_iface
  go_enter Tryz.func68, Tryz.ntmps68
  go_wp2
  have hfr := Bld.fresh (w.alloc (.cells #[.int .i64 0, .string ⟨#[]⟩, .int .i64 0] 30))
  rw [World.size_alloc] at hfr
  have Hfr := Lib.hid hfr
  clear hfr
  go_loopg [7] (s.size - i) (fun gg v wr => ∃ (k : Nat) (out : List UInt8), v = .int .i64 k ∧ i + 1 ≤ k ∧ k ≤ s.size ∧ out.length ≤ k ∧ s.size - k ≤ gg ∧ Hid (textE s (i + 1) [] = textE s k out) ∧
    Lib.IsBuilder 117 5 (w.heap.size + 1) (w.heap.size + 1) (Lib.byteCells out) wr ∧ w.heap.size + 1 ≤ wr.heap.size ∧
    Below (w.heap.size + 1) (w.alloc (.cells #[.int .i64 0, .string ⟨#[]⟩, .int .i64 0] 30)) wr)
  case atStart => exact ⟨i + 1, [], by go_num, Nat.le_refl _, by omega, by simp, by omega, rfl, Hfr.out, by simp, (Below.refl _ _).alloc (by simp) _⟩
  case round =>
    obtain ⟨k, out, rfl, hik, hk, hlen, hg, hw, hbu, hsz, hbl⟩ := hrel
    have hb0 : Below w.heap.size w wr := ((Below.refl _ w).alloc (Nat.le_refl _) _).trans (hbl.mono (by omega))
    have hx' : wr.cell? ⟨bx, 1, none⟩ = some (.string s) := (hb0.cell (p := ⟨bx, 1, none⟩) hbx).trans hx
    have hc0 : wr.cell? ⟨w.heap.size, 0, none⟩ = some (.int .i64 0) := (hbl.cell (p := ⟨w.heap.size, 0, none⟩) (by simp)).trans (cells_at w _ _ _ 0 rfl)
    have hc1 : wr.cell? ⟨w.heap.size, 1, none⟩ = some (.string ⟨#[]⟩) := (hbl.cell (p := ⟨w.heap.size, 1, none⟩) (by simp)).trans (cells_at w _ _ _ 1 rfl)
    have hc2 : wr.cell? ⟨w.heap.size, 2, none⟩ = some (.int .i64 0) := (hbl.cell (p := ⟨w.heap.size, 2, none⟩) (by simp)).trans (cells_at w _ _ _ 2 rfl)
    have hf0 : ∀ o, wr.frozen? ⟨w.heap.size, o, none⟩ = false := fun o => (hbl.frozen (p := ⟨w.heap.size, o, none⟩) (by simp)).trans (frozen_at w _ _ _ o rfl)
    have Hbu := Lib.hid hbu
    clear hbu
    have Hbl := Lib.hid hbl
    clear hbl
    have Hb0 := Lib.hid hb0
    clear hb0
    have hsz' : w.heap.size < wr.heap.size := by omega
    by_cases hlt : k < s.size
    · have hltz : (k : Int) < (s.size : Int) := by omega
      have Heq := Lib.hid (textE_eq s k out hlt)
      have hbt : bt s k = ((s[k]'hlt).toNat : Int) := by unfold bt; simp [hlt]
      have hb8 : (s[k]'hlt).toNat < 256 := (s[k]'hlt).toNat_lt
      have hcb : (bt s k).toNat.toUInt8 = s[k]'hlt := by rw [hbt, Int.toNat_natCast]; simp
      rw [hcb, hbt] at Heq
      clear hcb hbt
      have HWB := Lib.hid (fun (c : UInt8) => Bld.WriteByte_calls (w.heap.size + 1) (w.heap.size + 1) (Lib.byteCells out) (c.toNat : Int) wr Hbu.out (by rw [Lib.byteCells_length]; omega) hsz)
      have hbc : ∀ c : UInt8, Lib.byteCells out ++ [.int .u8 (c.toNat : Int)] = Lib.byteCells (out ++ [c]) := fun c => by simp [Lib.byteCells]
      have Hbc := Lib.hid hbc
      clear hbc
      by_cases hA : ((s[k]'hlt).toNat : Int) = 10
      · have gA : (((s[k]'hlt).toNat : Int) != 10) = false := by simp [hA]
        rw [if_pos hA] at Heq
        clear hA
        go_wp2
        refine ⟨rfl, ?_, Hb0.out⟩
        rw [hw.out, Heq.out]; rfl
      · have gA : (((s[k]'hlt).toNat : Int) != 10) = true := by simpa using hA
        rw [if_neg hA] at Heq
        clear hA
        by_cases hB : ((s[k]'hlt).toNat : Int) = 34
        · have gB : (((s[k]'hlt).toNat : Int) == 34) = true := by simp [hB]
          rw [if_pos hB] at Heq
          clear hB
          have HST := Lib.hid (Tryz.Builder_String_any (w.heap.size + 1) (w.heap.size + 1) out wr Hbu.out hsz)
          go_wp2_with fail
          refine HST.out.mono ?_
          rintro e w1 ⟨rfl, hb1⟩
          have hd0 : w1.cell? ⟨w.heap.size, 0, none⟩ = some (.int .i64 0) := (hb1.cell (p := ⟨w.heap.size, 0, none⟩) (by simp)).trans hc0
          have hd1 : w1.cell? ⟨w.heap.size, 1, none⟩ = some (.string ⟨#[]⟩) := (hb1.cell (p := ⟨w.heap.size, 1, none⟩) (by simp)).trans hc1
          have hd2 : w1.cell? ⟨w.heap.size, 2, none⟩ = some (.int .i64 0) := (hb1.cell (p := ⟨w.heap.size, 2, none⟩) (by simp)).trans hc2
          have hf1 : ∀ o, w1.frozen? ⟨w.heap.size, o, none⟩ = false := fun o => (hb1.frozen (p := ⟨w.heap.size, o, none⟩) (by simp)).trans (hf0 o)
          go_wp2
          refine bodyPost_ret (v := .tuple #[.agg #[.int .i64 8, .string ⟨out.toArray⟩, .int .i64 i], .int .i64 ((k + 1 : Nat) : Int)]) (by simp [results, Tryz.results68, go_sem, hd0, hd1, hd2]) rfl ⟨?_, ?_⟩
          · rw [hw.out, Heq.out]; rfl
          · exact ((((Hb0.out.trans (hb1.mono (by omega))).setCell (p := ⟨w.heap.size, 0, none⟩) (Nat.le_refl _) _).setCell (p := ⟨w.heap.size, 1, none⟩) (Nat.le_refl _) _).setCell (p := ⟨w.heap.size, 2, none⟩) (Nat.le_refl _) _)
        · have gB : (((s[k]'hlt).toNat : Int) == 34) = false := by simpa using hB
          rw [if_neg hB] at Heq
          clear hB
          by_cases hC : ((s[k]'hlt).toNat : Int) = 92
          · have gC : (((s[k]'hlt).toNat : Int) == 92) = true := by simp [hC]
            rw [if_pos hC] at Heq
            clear hC
            by_cases hl2 : k + 1 < s.size
            · have hl2z : ((k : Int) + 1 == (s.size : Int)) = false := by simp; omega
              have hl2y : (k : Int) + 1 < (s.size : Int) := by omega
              rw [if_pos hl2] at Heq
              have hbt : bt s ((k + 1 : Nat) : Int) = ((s[k + 1]'hl2).toNat : Int) := by unfold bt; simp [hl2]
              have hcb : (bt s ((k + 1 : Nat) : Int)).toNat.toUInt8 = s[k + 1]'hl2 := by rw [hbt, Int.toNat_natCast]; simp
              rw [hcb, hbt] at Heq
              clear hcb hbt
              by_cases hD : ((s[k + 1]'hl2).toNat : Int) = 110
              · have gD : (((s[k + 1]'hl2).toNat : Int) == 110) = true := by simp [hD]
                rw [if_pos hD] at Heq
                clear hD
                have HW10 := Lib.hid (HWB.out 10)
                have hbc := Hbc.out 10
                change Hid (Calls _ _ #[_, .int .u8 10] _ _) at HW10
                go_wp2_with (go_at_call 80; refine HW10.out.mono ?_; rintro e w1 ⟨rfl, hbu1, hb1⟩)
                go_roundg (s.size - (k + 2))
                case measure => omega
                case rel => exact ⟨k + 2, out ++ [10], by go_num, by omega, by omega, by simp; omega, Nat.le_refl _, Lib.hid (hw.out.trans Heq.out), by rw [← Hbc.out]; exact hbu1, by have := hb1.size; omega, Hbl.out.trans hb1⟩
              · have gD : (((s[k + 1]'hl2).toNat : Int) == 110) = false := by simpa using hD
                rw [if_neg hD] at Heq
                clear hD
                by_cases hE : ((s[k + 1]'hl2).toNat : Int) = 34
                · have gE : (((s[k + 1]'hl2).toNat : Int) != 34) = false := by simp [hE]
                  rw [if_pos (.inl hE)] at Heq
                  clear hE
                  go_wp2_with (go_at_call 80; refine (HWB.out _).mono ?_; rintro e w1 ⟨rfl, hbu1, hb1⟩)
                  go_roundg (s.size - (k + 2))
                  case measure => omega
                  case rel => exact ⟨k + 2, out ++ [s[k + 1]'hl2], by go_num, by omega, by omega, by simp; omega, Nat.le_refl _, Lib.hid (hw.out.trans Heq.out), by rw [← Hbc.out]; exact hbu1, by have := hb1.size; omega, Hbl.out.trans hb1⟩
                · have gE : (((s[k + 1]'hl2).toNat : Int) != 34) = true := by simpa using hE
                  by_cases hF : ((s[k + 1]'hl2).toNat : Int) = 92
                  · have gF : (((s[k + 1]'hl2).toNat : Int) != 92) = false := by simp [hF]
                    rw [if_pos (.inr hF)] at Heq
                    clear hE hF
                    go_wp2_with (go_at_call 80; refine (HWB.out _).mono ?_; rintro e w1 ⟨rfl, hbu1, hb1⟩)
                    go_roundg (s.size - (k + 2))
                    case measure => omega
                    case rel => exact ⟨k + 2, out ++ [s[k + 1]'hl2], by go_num, by omega, by omega, by simp; omega, Nat.le_refl _, Lib.hid (hw.out.trans Heq.out), by rw [← Hbc.out]; exact hbu1, by have := hb1.size; omega, Hbl.out.trans hb1⟩
                  · have gF : (((s[k + 1]'hl2).toNat : Int) != 92) = true := by simpa using hF
                    rw [if_neg (by omega)] at Heq
                    clear hE hF
                    go_wp2
                    refine ⟨rfl, ?_, Hb0.out⟩
                    rw [hw.out, Heq.out]; rfl
            · have hl2z : ((k : Int) + 1 == (s.size : Int)) = true := by simp; omega
              rw [if_neg hl2] at Heq
              go_wp2
              refine ⟨rfl, ?_, Hb0.out⟩
              rw [hw.out, Heq.out]; rfl
          · have gC : (((s[k]'hlt).toNat : Int) == 92) = false := by simpa using hC
            rw [if_neg hC] at Heq
            clear hC
            go_wp2_with (go_at_call 80; refine (HWB.out _).mono ?_; rintro e w1 ⟨rfl, hbu1, hb1⟩)
            go_roundg (s.size - (k + 1))
            case measure => omega
            case rel => exact ⟨k + 1, out ++ [s[k]'hlt], by go_num, by omega, by omega, by simp; omega, Nat.le_refl _, Lib.hid (hw.out.trans Heq.out), by rw [← Hbc.out]; exact hbu1, by have := hb1.size; omega, Hbl.out.trans hb1⟩
    · have hltz : ¬ (k : Int) < (s.size : Int) := by omega
      go_wp2
      refine ⟨rfl, ?_, Hb0.out⟩
      rw [hw.out, textE_end _ _ _ (by omega)]; rfl
end Go.Proofs.YtmkfeanggmjhmaaGreat.S

/- A set of texts kept in a map[string]bool. -/
namespace Go.Proofs.YtmkfeanggmjhmaaGreat.K
set_option linter.unusedSimpArgs false
set_option linter.unusedVariables false
open Go Go.RowKit Go.Maps Go.WideMaps Go.WideElems
set_option linter.unusedVariables false

theorem plainElem_bool_inv {H : Type} {P : Program} {e : TypeId} (he : P.underlying e = some .bool) {v : Value} {z : DataW H × List MemPlace} (h : plainElem P e v = some z) : ∃ a, v = .bool a ∧ z = (.lit (.bool a), []) := by
  unfold plainElem at h
  rw [he] at h
  cases v <;> simp at h
  exact ⟨_, rfl, h.symm⟩

/-- block b is a map of at most n entries; it holds true at the texts of which p says so, and nothing else that is true -/
def KwSet (w : World) (b n : Nat) (p : List UInt8 → Bool) : Prop :=
  ∃ D : DataW Unit, w.ownsMap Tryz.prog 9 (plainElem Tryz.prog 4) b n D ∧ IsMap D ∧ ∀ l, D.atKey (.string l) (.lit (.bool false)) = .lit (.bool (p l))

theorem KwSet.made (w : World) : KwSet (w.alloc (.map #[] 0)) w.heap.size 0 (fun _ => false) :=
  ⟨.map [], World.ownsMap_made w _ _ _, isMap_empty, fun l => rfl⟩
theorem KwSet.lt {w : World} {b n : Nat} {p : List UInt8 → Bool} (h : KwSet w b n p) : b < w.heap.size := by
  obtain ⟨D, h, _⟩ := h
  exact h.lt
theorem KwSet.same {w w' : World} {b n : Nat} {p : List UInt8 → Bool} (h : KwSet w b n p) (hb : w'.heap[b]? = w.heap[b]?) : KwSet w' b n p := by
  obtain ⟨D, ⟨es, clock, h1, r⟩, h2⟩ := h
  exact ⟨D, ⟨es, clock, hb.trans h1, r⟩, h2⟩
theorem KwSet.chg {T : Nat → Prop} {w w' : World} {b n : Nat} {p : List UInt8 → Bool} (h : KwSet w b n p) (hc : Chg T w w') (hn : ¬ T b) : KwSet w' b n p := h.same (hc.block b h.lt hn)
theorem KwSet.below {m : Nat} {w w' : World} {b n : Nat} {p : List UInt8 → Bool} (h : KwSet w b n p) (hc : Below m w w') (hn : b < m) : KwSet w' b n p := h.same (hc.block b hn)
theorem KwSet.lookup {w : World} {b n : Nat} {p : List UInt8 → Bool} (h : KwSet w b n p) (s : ByteArray) (hs : s.size ≤ maxLen) :
    (Instr.lookup 47 (.map (some b)) (.string s) false).run Tryz.prog w = .ok (.bool (p s.data.toList)) w := by
  obtain ⟨D, h1, h2, h3⟩ := h
  obtain ⟨v, ps, hrun, hv⟩ := h1.lookup (string_keyed Tryz.underlying9) Tryz.underlying47 (Tryz.zeroValue4 w) (plainElem_bool Tryz.underlying4 false) (keyOf_string_mk Tryz.underlying9 hs)
  rw [h3] at hv
  obtain ⟨a, rfl, ha⟩ := plainElem_bool_inv Tryz.underlying4 hv
  simp only [Prod.mk.injEq, DataW.lit.injEq, Lit.bool.injEq] at ha
  rw [hrun, ← ha.1]
theorem KwSet.update {w : World} {b n : Nat} {p : List UInt8 → Bool} (h : KwSet w b n p) (hn : n < maxLen) (s : ByteArray) (hs : s.size ≤ maxLen) :
    ∃ w', (Instr.mapUpdate 47 (.map (some b)) (.string s) (.bool true)).run Tryz.prog w = .ok () w' ∧ KwSet w' b (n + 1) (fun l => p l || l == s.data.toList) ∧ w.grownBy w' (some b) := by
  obtain ⟨D, h1, h2, h3⟩ := h
  obtain ⟨w', hrun, ho, hg⟩ := h1.update (string_keyed Tryz.underlying9) Tryz.underlying47 hn (keyOf_string_mk Tryz.underlying9 hs) (plainElem_bool Tryz.underlying4 true)
  refine ⟨w', hrun, ⟨_, ho, h2.put _ _, fun l => ?_⟩, hg⟩
  by_cases e : l = s.data.toList
  · subst e
    rw [atKey_put_same h2 (by simp [WideAt.IsKeyLit])]
    simp
  · rw [atKey_put_other (by simpa using e), h3]
    simp [e]
end Go.Proofs.YtmkfeanggmjhmaaGreat.K

/- Walk of the scanner: one token. -/
namespace Go.Proofs.YtmkfeanggmjhmaaGreat.S
open Go Go.RowKit Go.Proofs.YtmkfeanggmjhmaaGreatW.PrintWords Go.Proofs.YtmkfeanggmjhmaaGreatW.PrintLast Go.Proofs.YtmkfeanggmjhmaaGreatW.PrintMore
open Go.Proofs.YtmkfeanggmjhmaaGreat.M Go.Proofs.YtmkfeanggmjhmaaGreat.K
set_option linter.unusedSimpArgs false
set_option linter.unusedVariables false

def oneR (i : Nat) : Except Int ((Int × ByteArray) × Nat) → Ending
  | .ok ((k, t), e) => .returned (.tuple #[.agg #[.int .i64 k, .string t, .int .i64 i], .int .i64 e])
  | .error c => stopE i c

set_option maxRecDepth 100000 in
set_option maxHeartbeats 4000000 in
theorem one_calls (bx bm n : Nat) (p : List UInt8 → Bool) (s : ByteArray) (i : Int) (h0 : 0 ≤ i) (hi : i < s.size) (w : World)
    (hm : w.cell? ⟨bx, 0, none⟩ = some (.map (some bm))) (hx : w.cell? ⟨bx, 1, none⟩ = some (.string s)) (hk : KwSet w bm n p) (hs : s.size ≤ 1000000000000) :
    Calls Tryz.prog 48 #[.pointer (some ⟨bx, 0, none⟩), .int .i64 i] w fun r w' =>
      r = oneR i.toNat (oneE p s i.toNat) ∧ Below w.heap.size w w' := by
  obtain ⟨i, rfl⟩ := Int.eq_ofNat_of_zero_le h0
  rw [Int.toNat_natCast]
  have hbx : bx < w.heap.size := lt_of_cell hx
  have hbm : bm < w.heap.size := hk.lt
  have hpan := run_panic_iface
  have hlt : i < s.size := by omega
  have hltz : (i : Int) < (s.size : Int) := hi
  have hbt : bt s i = ((s[i]'hlt).toNat : Int) := by unfold bt; simp [hlt]
  generalize hE : oneE p s i = E
  have Htext := Lib.hid (oneE_text (kw := p) (s := s) (i := i))
  have Hquote := Lib.hid (oneE_quote (kw := p) (s := s) (i := i))
  have Hnone := Lib.hid (fun h hp k e => oneE_none (kw := p) (s := s) (i := i) h hp (k := k) (e := e))
  have Hsome := Lib.hid (fun h hp k e => oneE_some (kw := p) (s := s) (i := i) h hp (k := k) (e := e))
  rw [hbt, hE] at Htext Hquote Hnone Hsome
  clear hbt hE
  by_cases hA : ((s[i]'hlt).toNat : Int) = 34
  · have gA : (((s[i]'hlt).toNat : Int) == 34) = true := by simp [hA]
    have HE := Lib.hid (Htext.out hA)
    clear hA Htext Hquote Hnone Hsome
    have HT := Lib.hid (fun w hx => text_calls bx s i (by omega) hi w hx hs)
    rw [Int.toNat_natCast] at HT
    cases hte : textE s (i + 1) [] with
    | none =>
      rw [hte] at HT HE
      clear hte
      obtain rfl := HE.out
      go_enter Tryz.func48, Tryz.ntmps48
      go_wp2_with fail
      refine (HT.out _ ?_).mono ?_
      · rw [cell_old _ _ _ _ hbx]; exact hx
      rintro r w' ⟨rfl, hb⟩
      unfold textR stopE
      go_wp2
      exact ⟨rfl, rfl, (((Below.refl _ w).alloc (Nat.le_refl _) _).trans (hb.mono (by simp)))⟩
    | some lj =>
      obtain ⟨l, j⟩ := lj
      rw [hte] at HT HE
      clear hte
      obtain rfl := HE.out
      go_enter Tryz.func48, Tryz.ntmps48
      go_wp2_with fail
      refine (HT.out _ ?_).mono ?_
      · rw [cell_old _ _ _ _ hbx]; exact hx
      rintro r w' ⟨rfl, hb⟩
      unfold textR
      have hd0 : w'.cell? ⟨w.heap.size, 0, none⟩ = some (.int .i64 0) := (hb.cell (p := ⟨w.heap.size, 0, none⟩) (by simp)).trans (cells_at w _ _ _ 0 rfl)
      have hd1 : w'.cell? ⟨w.heap.size, 1, none⟩ = some (.string ⟨#[]⟩) := (hb.cell (p := ⟨w.heap.size, 1, none⟩) (by simp)).trans (cells_at w _ _ _ 1 rfl)
      have hd2 : w'.cell? ⟨w.heap.size, 2, none⟩ = some (.int .i64 0) := (hb.cell (p := ⟨w.heap.size, 2, none⟩) (by simp)).trans (cells_at w _ _ _ 2 rfl)
      have hf1 : ∀ o, w'.frozen? ⟨w.heap.size, o, none⟩ = false := fun o => (hb.frozen (p := ⟨w.heap.size, o, none⟩) (by simp)).trans (frozen_at w _ _ _ o rfl)
      go_wp2
      refine bodyPost_ret (v := .tuple #[.agg #[.int .i64 8, .string ⟨l.toArray⟩, .int .i64 i], .int .i64 j]) (by simp [results, Tryz.results48, go_sem, hd0, hd1, hd2]) rfl ⟨rfl, ?_⟩
      exact ((((((Below.refl _ w).alloc (Nat.le_refl _) _).trans (hb.mono (by simp))).setCell (p := ⟨w.heap.size, 0, none⟩) (Nat.le_refl _) _).setCell (p := ⟨w.heap.size, 1, none⟩) (Nat.le_refl _) _).setCell (p := ⟨w.heap.size, 2, none⟩) (Nat.le_refl _) _)
  · have gA : (((s[i]'hlt).toNat : Int) == 34) = false := by simpa using hA
    replace Hquote := Lib.hid (Hquote.out hA)
    replace Hnone := Lib.hid (Hnone.out hA)
    replace Hsome := Lib.hid (Hsome.out hA)
    clear hA Htext
    have HP := Lib.hid (fun w => prefix_calls s i ⟨#[92, 60, 111, 112, 101, 110, 62]⟩ w)
    change Hid (∀ w, Calls _ _ _ _ fun e w' => e = .returned (.bool (preAt s i opened)) ∧ _) at HP
    have HN := Lib.hid (fun w hx => nested_calls bx s i (by omega) (by omega) ⟨#[92, 60, 111, 112, 101, 110, 62]⟩ ⟨#[92, 60, 99, 108, 111, 115, 101, 62]⟩ (by decide) (by decide) w hx hs)
    rw [Int.toNat_natCast] at HN
    change Hid (∀ w, _ → Calls _ _ _ _ fun r w' => r = .returned (nestR (nestE s opened closed i 0)) ∧ _) at HN
    have Hboth := Lib.hid (fun h r h' => nestE_both (s := s) (b := opened) (e := closed) (i := i) (r := r) (by omega) h h')
    have Hle := Lib.hid (fun e => nestE_le (s := s) (b := opened) (e := closed) (i := i) (deep := 0) (r := e) (by omega))
    have hiz : (i : Int) ≤ (s.size : Int) := by omega
    cases hp : preAt s i opened with
    | true =>
      have HE := Lib.hid (Hquote.out hp)
      rw [hp] at HP Hboth
      clear hp Hquote Hnone Hsome
      cases hne : nestE s opened closed i 0 with
      | none =>
        rw [hne] at HN HE
        clear hne Hboth Hle
        obtain rfl := HE.out
        go_enter Tryz.func48, Tryz.ntmps48
        go_wp2_with fail
        refine (HP.out _).mono ?_
        rintro r w' ⟨rfl, rfl⟩
        go_wp2_with fail
        refine (HN.out _ ?_).mono ?_
        · rw [cell_old _ _ _ _ hbx]; exact hx
        rintro r w' ⟨rfl, hb⟩
        unfold nestR
        go_wp2
        exact ⟨rfl, rfl, (((Below.refl _ w).alloc (Nat.le_refl _) _).trans (hb.mono (by simp)))⟩
      | some e =>
        have he1 := Hboth.out rfl e hne
        have he2 := Hle.out e hne
        rw [hne] at HN HE
        clear hne Hboth Hle
        obtain rfl := HE.out
        have hl1 : opened.length = 7 := rfl
        have hl2 : closed.length = 8 := rfl
        rw [hl1, hl2] at he1
        clear hl1 hl2
        go_enter Tryz.func48, Tryz.ntmps48
        go_wp2_with fail
        refine (HP.out _).mono ?_
        rintro r w' ⟨rfl, rfl⟩
        go_wp2_with fail
        refine (HN.out _ ?_).mono ?_
        · rw [cell_old _ _ _ _ hbx]; exact hx
        rintro r w' ⟨rfl, hb⟩
        unfold nestR
        have hx1 : w'.cell? ⟨bx, 1, none⟩ = some (.string s) := (hb.cell (p := ⟨bx, 1, none⟩) (by simp; omega)).trans (by rw [cell_old _ _ _ _ hbx]; exact hx)
        have hd0 : w'.cell? ⟨w.heap.size, 0, none⟩ = some (.int .i64 0) := (hb.cell (p := ⟨w.heap.size, 0, none⟩) (by simp)).trans (cells_at w _ _ _ 0 rfl)
        have hd1 : w'.cell? ⟨w.heap.size, 1, none⟩ = some (.string ⟨#[]⟩) := (hb.cell (p := ⟨w.heap.size, 1, none⟩) (by simp)).trans (cells_at w _ _ _ 1 rfl)
        have hd2 : w'.cell? ⟨w.heap.size, 2, none⟩ = some (.int .i64 0) := (hb.cell (p := ⟨w.heap.size, 2, none⟩) (by simp)).trans (cells_at w _ _ _ 2 rfl)
        have hf1 : ∀ o, w'.frozen? ⟨w.heap.size, o, none⟩ = false := fun o => (hb.frozen (p := ⟨w.heap.size, o, none⟩) (by simp)).trans (frozen_at w _ _ _ o rfl)
        have hsl : ∀ W, (Instr.slice 9 (.string s) (some (.int .i64 ((i : Int) + 7))) (some (.int .i64 ((e : Int) - 8))) none).run Tryz.prog W = .ok (.string (s.extract (i + 7) (e - 8))) W := fun W => by
          rw [run_slice_string W _ s _ _ _ _ Tryz.underlying9 (by omega) (by omega) (by omega)]
          rw [show ((i : Int) + 7).toNat = i + 7 by omega, show ((e : Int) - 8).toNat = e - 8 by omega]
        go_wp2
        refine bodyPost_ret (v := .tuple #[.agg #[.int .i64 9, .string (s.extract (i + 7) (e - 8)), .int .i64 i], .int .i64 e]) (by simp [results, Tryz.results48, go_sem, hd0, hd1, hd2]) rfl ⟨rfl, ?_⟩
        exact ((((((Below.refl _ w).alloc (Nat.le_refl _) _).trans (hb.mono (by simp))).setCell (p := ⟨w.heap.size, 0, none⟩) (Nat.le_refl _) _).setCell (p := ⟨w.heap.size, 1, none⟩) (Nat.le_refl _) _).setCell (p := ⟨w.heap.size, 2, none⟩) (Nat.le_refl _) _)
    | false =>
      replace Hnone := Lib.hid (Hnone.out hp)
      replace Hsome := Lib.hid (Hsome.out hp)
      rw [hp] at HP
      clear hp HN Hboth Hle Hquote
      go_enter Tryz.func48, Tryz.ntmps48
      go_wp2_with fail
      refine (HP.out _).mono ?_
      rintro r w' ⟨rfl, rfl⟩
      go_wp2
      go_loopg [7, 8, 66] 4 (fun gg v7 v8 v66 wr => ∃ j : Nat, j ≤ 4 ∧ v66 = .int .i64 j ∧ v7 = .int .i64 (bestE s i j).1 ∧ v8 = .int .i64 (bestE s i j).2 ∧ 4 - j ≤ gg ∧
        Below (w.heap.size + 2) ((w.alloc (.cells #[.int .i64 0, .string ⟨#[]⟩, .int .i64 0] 30)).alloc (.cells #[.func (.func 69) #[.pointer (some ⟨bx, 0, none⟩)] #[], .func (.func 70) #[.pointer (some ⟨bx, 0, none⟩)] #[], .func (.func 71) #[.pointer (some ⟨bx, 0, none⟩)] #[], .func (.func 72) #[.pointer (some ⟨bx, 0, none⟩)] #[]] 94)) wr)
      case atStart => exact ⟨0, by omega, rfl, rfl, rfl, by omega, Below.refl _ _⟩
      case round =>
        obtain ⟨j, hj, rfl, rfl, rfl, hg, hbl⟩ := hrel
        have hb0 : Below w.heap.size w wr := (((Below.refl _ w).alloc (Nat.le_refl _) _).alloc (by simp) _).trans (hbl.mono (by omega))
        have hx' : wr.cell? ⟨bx, 1, none⟩ = some (.string s) := (hb0.cell (p := ⟨bx, 1, none⟩) hbx).trans hx
        have hm' : wr.cell? ⟨bx, 0, none⟩ = some (.map (some bm)) := (hb0.cell (p := ⟨bx, 0, none⟩) hbx).trans hm
        have hwz : w.heap.size + 2 ≤ wr.heap.size := by have := hbl.size; simp at this; omega
        have Hfin : Hid (∀ w1, Below wr.heap.size wr w1 → Below (w.heap.size + 2) _ w1) := fun w1 h => hbl.trans (h.mono hwz)
        rcases (show j = 0 ∨ j = 1 ∨ j = 2 ∨ j = 3 ∨ j = 4 by omega) with rfl | rfl | rfl | rfl | rfl
        · have hcj : wr.cell? ⟨w.heap.size + 1, 0, none⟩ = some (.func (.func 69) #[.pointer (some ⟨bx, 0, none⟩)] #[]) := (hbl.cell (p := ⟨w.heap.size + 1, 0, none⟩) (by simp)).trans (cells_at _ _ _ _ 0 (by simp))
          have HC := Lib.hid (names_calls bx s i (by omega) (by omega) wr hx' hs)
          rw [Int.toNat_natCast] at HC
          have Hstep : Hid (bestE s i 1 = if (bestE s i 0).2 < (readE s i 0).2 then readE s i 0 else bestE s i 0) := rfl
          have hr := readE_le s i hlt 0
          have hbe := bestE_le s i hlt 0
          change Hid (Calls _ _ _ _ fun r w' => r = .returned (.tuple #[.int .i64 (readE s i 0).1, .int .i64 (readE s i 0).2]) ∧ _) at HC
          generalize readE s i 0 = rr at HC Hstep hr
          generalize bestE s i 0 = be at Hstep hbe
          obtain ⟨rk, re⟩ := rr
          obtain ⟨bk, be⟩ := be
          by_cases hcmp : be < re
          · have hcz : (be : Int) < (re : Int) := by omega
            have Hn : Hid (bestE s i 1 = (rk, re)) := by have := Hstep.out; rw [if_pos hcmp] at this; exact this
            clear Hstep hcmp
            go_wp2_with (go_at_call 69; refine HC.out.mono ?_; rintro e w1 ⟨rfl, hb1⟩)
            go_roundg 3
            case measure => omega
            case rel => exact ⟨1, by omega, rfl, by rw [Hn.out], by rw [Hn.out], by omega, Hfin.out w1 (hb1.below)⟩
          · have hcz : ¬ (be : Int) < (re : Int) := by omega
            have Hn : Hid (bestE s i 1 = (bk, be)) := by have := Hstep.out; rw [if_neg hcmp] at this; exact this
            clear Hstep hcmp
            go_wp2_with (go_at_call 69; refine HC.out.mono ?_; rintro e w1 ⟨rfl, hb1⟩)
            go_roundg 3
            case measure => omega
            case rel => exact ⟨1, by omega, rfl, by rw [Hn.out], by rw [Hn.out], by omega, Hfin.out w1 (hb1.below)⟩
        · have hcj : wr.cell? ⟨w.heap.size + 1, 1, none⟩ = some (.func (.func 70) #[.pointer (some ⟨bx, 0, none⟩)] #[]) := (hbl.cell (p := ⟨w.heap.size + 1, 1, none⟩) (by simp)).trans (cells_at _ _ _ _ 1 (by simp))
          have HC := Lib.hid (variables_calls bx s i (by omega) (by omega) wr hx' hs)
          rw [Int.toNat_natCast] at HC
          have Hstep : Hid (bestE s i 2 = if (bestE s i 1).2 < (readE s i 1).2 then readE s i 1 else bestE s i 1) := rfl
          have hr := readE_le s i hlt 1
          have hbe := bestE_le s i hlt 1
          change Hid (Calls _ _ _ _ fun r w' => r = .returned (.tuple #[.int .i64 (readE s i 1).1, .int .i64 (readE s i 1).2]) ∧ _) at HC
          generalize readE s i 1 = rr at HC Hstep hr
          generalize bestE s i 1 = be at Hstep hbe
          obtain ⟨rk, re⟩ := rr
          obtain ⟨bk, be⟩ := be
          by_cases hcmp : be < re
          · have hcz : (be : Int) < (re : Int) := by omega
            have Hn : Hid (bestE s i 2 = (rk, re)) := by have := Hstep.out; rw [if_pos hcmp] at this; exact this
            clear Hstep hcmp
            go_wp2_with (go_at_call 70; refine HC.out.mono ?_; rintro e w1 ⟨rfl, hb1⟩)
            go_roundg 2
            case measure => omega
            case rel => exact ⟨2, by omega, rfl, by rw [Hn.out], by rw [Hn.out], by omega, Hfin.out w1 (hb1)⟩
          · have hcz : ¬ (be : Int) < (re : Int) := by omega
            have Hn : Hid (bestE s i 2 = (bk, be)) := by have := Hstep.out; rw [if_neg hcmp] at this; exact this
            clear Hstep hcmp
            go_wp2_with (go_at_call 70; refine HC.out.mono ?_; rintro e w1 ⟨rfl, hb1⟩)
            go_roundg 2
            case measure => omega
            case rel => exact ⟨2, by omega, rfl, by rw [Hn.out], by rw [Hn.out], by omega, Hfin.out w1 (hb1)⟩
        · have hcj : wr.cell? ⟨w.heap.size + 1, 2, none⟩ = some (.func (.func 71) #[.pointer (some ⟨bx, 0, none⟩)] #[]) := (hbl.cell (p := ⟨w.heap.size + 1, 2, none⟩) (by simp)).trans (cells_at _ _ _ _ 2 (by simp))
          have HC := Lib.hid (numbers_calls bx s i (by omega) wr hx' hs)
          rw [Int.toNat_natCast] at HC
          have Hstep : Hid (bestE s i 3 = if (bestE s i 2).2 < (readE s i 2).2 then readE s i 2 else bestE s i 2) := rfl
          have hr := readE_le s i hlt 2
          have hbe := bestE_le s i hlt 2
          change Hid (Calls _ _ _ _ fun r w' => r = .returned (.tuple #[.int .i64 (readE s i 2).1, .int .i64 (readE s i 2).2]) ∧ _) at HC
          generalize readE s i 2 = rr at HC Hstep hr
          generalize bestE s i 2 = be at Hstep hbe
          obtain ⟨rk, re⟩ := rr
          obtain ⟨bk, be⟩ := be
          by_cases hcmp : be < re
          · have hcz : (be : Int) < (re : Int) := by omega
            have Hn : Hid (bestE s i 3 = (rk, re)) := by have := Hstep.out; rw [if_pos hcmp] at this; exact this
            clear Hstep hcmp
            go_wp2_with (go_at_call 71; refine HC.out.mono ?_; rintro e w1 ⟨rfl, hb1⟩)
            go_roundg 1
            case measure => omega
            case rel => exact ⟨3, by omega, rfl, by rw [Hn.out], by rw [Hn.out], by omega, Hfin.out w1 (hb1.below)⟩
          · have hcz : ¬ (be : Int) < (re : Int) := by omega
            have Hn : Hid (bestE s i 3 = (bk, be)) := by have := Hstep.out; rw [if_neg hcmp] at this; exact this
            clear Hstep hcmp
            go_wp2_with (go_at_call 71; refine HC.out.mono ?_; rintro e w1 ⟨rfl, hb1⟩)
            go_roundg 1
            case measure => omega
            case rel => exact ⟨3, by omega, rfl, by rw [Hn.out], by rw [Hn.out], by omega, Hfin.out w1 (hb1.below)⟩
        · have hcj : wr.cell? ⟨w.heap.size + 1, 3, none⟩ = some (.func (.func 72) #[.pointer (some ⟨bx, 0, none⟩)] #[]) := (hbl.cell (p := ⟨w.heap.size + 1, 3, none⟩) (by simp)).trans (cells_at _ _ _ _ 3 (by simp))
          have HC := Lib.hid (symbols_calls bx s i (by omega) (by omega) wr hx' hs)
          rw [Int.toNat_natCast] at HC
          have Hstep : Hid (bestE s i 4 = if (bestE s i 3).2 < (readE s i 3).2 then readE s i 3 else bestE s i 3) := rfl
          have hr := readE_le s i hlt 3
          have hbe := bestE_le s i hlt 3
          change Hid (Calls _ _ _ _ fun r w' => r = .returned (.tuple #[.int .i64 (readE s i 3).1, .int .i64 (readE s i 3).2]) ∧ _) at HC
          generalize readE s i 3 = rr at HC Hstep hr
          generalize bestE s i 3 = be at Hstep hbe
          obtain ⟨rk, re⟩ := rr
          obtain ⟨bk, be⟩ := be
          by_cases hcmp : be < re
          · have hcz : (be : Int) < (re : Int) := by omega
            have Hn : Hid (bestE s i 4 = (rk, re)) := by have := Hstep.out; rw [if_pos hcmp] at this; exact this
            clear Hstep hcmp
            go_wp2_with (go_at_call 72; refine HC.out.mono ?_; rintro e w1 ⟨rfl, hb1⟩)
            go_roundg 0
            case measure => omega
            case rel => exact ⟨4, by omega, rfl, by rw [Hn.out], by rw [Hn.out], by omega, Hfin.out w1 (hb1.below)⟩
          · have hcz : ¬ (be : Int) < (re : Int) := by omega
            have Hn : Hid (bestE s i 4 = (bk, be)) := by have := Hstep.out; rw [if_neg hcmp] at this; exact this
            clear Hstep hcmp
            go_wp2_with (go_at_call 72; refine HC.out.mono ?_; rintro e w1 ⟨rfl, hb1⟩)
            go_roundg 0
            case measure => omega
            case rel => exact ⟨4, by omega, rfl, by rw [Hn.out], by rw [Hn.out], by omega, Hfin.out w1 (hb1.below)⟩
        · have hbe := bestE_le s i hlt 4
          generalize hbb : bestE s i 4 = be at hbe ⊢
          obtain ⟨k, e⟩ := be
          simp only at hbe ⊢
          replace Hnone := Lib.hid (Hnone.out k e hbb)
          replace Hsome := Lib.hid (Hsome.out k e hbb)
          clear hbb
          have he1 : (i : Int) ≤ (e : Int) := by omega
          have he2 : (e : Int) ≤ (s.size : Int) := by omega
          by_cases hei : e = i
          · have ge : ((e : Int) == (i : Int)) = true := by simp; omega
            obtain rfl := Hnone.out (.inl hei)
            clear hei Hnone Hsome
            go_wp2
            exact ⟨rfl, rfl, hb0⟩
          · have ge : ((e : Int) == (i : Int)) = false := by simp; omega
            replace Hsome := Lib.hid (Hsome.out hei)
            clear hei
            have htl : (s.extract i e).toList = (s.extract i e).data.toList := Lib.toList_data _
            have hk' : KwSet wr bm n p := hk.below hb0 hbm
            have hsz : (s.extract i e).size ≤ maxLen := by rw [ByteArray.size_extract]; unfold maxLen; omega
            have hlook := hk'.lookup (s.extract i e) hsz
            clear hk' hsz
            have hd0 : wr.cell? ⟨w.heap.size, 0, none⟩ = some (.int .i64 0) := (hbl.cell (p := ⟨w.heap.size, 0, none⟩) (by simp)).trans ((cell_old _ _ _ _ (by simp)).trans (cells_at w _ _ _ 0 rfl))
            have hd1 : wr.cell? ⟨w.heap.size, 1, none⟩ = some (.string ⟨#[]⟩) := (hbl.cell (p := ⟨w.heap.size, 1, none⟩) (by simp)).trans ((cell_old _ _ _ _ (by simp)).trans (cells_at w _ _ _ 1 rfl))
            have hd2 : wr.cell? ⟨w.heap.size, 2, none⟩ = some (.int .i64 0) := (hbl.cell (p := ⟨w.heap.size, 2, none⟩) (by simp)).trans ((cell_old _ _ _ _ (by simp)).trans (cells_at w _ _ _ 2 rfl))
            have hf1 : ∀ o, wr.frozen? ⟨w.heap.size, o, none⟩ = false := fun o => (hbl.frozen (p := ⟨w.heap.size, o, none⟩) (by simp)).trans ((frozen_old _ _ _ _ (by simp)).trans (frozen_at w _ _ _ o rfl))
            by_cases hcl : (s.extract i e).data.toList = closed
            · have gc : ((s.extract i e).toList == [92, 60, 99, 108, 111, 115, 101, 62]) = true := by rw [htl, hcl]; rfl
              obtain rfl := Hnone.out (.inr hcl)
              clear htl hcl Hsome hlook
              go_wp2
              exact ⟨rfl, rfl, hb0⟩
            · have gc : ((s.extract i e).toList == [92, 60, 99, 108, 111, 115, 101, 62]) = false := by
                rw [htl]; exact beq_eq_false_iff_ne.2 hcl
              replace Hsome := Lib.hid (Hsome.out hcl)
              clear htl hcl Hnone
              generalize (p (s.extract i e).data.toList) = kv at hlook Hsome
              by_cases hk1 : k = 1
              · subst hk1
                cases kv with
                | true =>
                  obtain rfl := Hsome.out
                  clear Hsome
                  go_wp2
                  refine bodyPost_ret (v := .tuple #[.agg #[.int .i64 10, .string (s.extract i e), .int .i64 i], .int .i64 e]) (by simp [results, Tryz.results48, go_sem, hd0, hd1, hd2]) rfl ⟨rfl, ?_⟩
                  exact ((hb0.setCell (p := ⟨w.heap.size, 0, none⟩) (Nat.le_refl _) _).setCell (p := ⟨w.heap.size, 1, none⟩) (Nat.le_refl _) _).setCell (p := ⟨w.heap.size, 2, none⟩) (Nat.le_refl _) _
                | false =>
                  obtain rfl := Hsome.out
                  clear Hsome
                  go_wp2
                  refine bodyPost_ret (v := .tuple #[.agg #[.int .i64 1, .string (s.extract i e), .int .i64 i], .int .i64 e]) (by simp [results, Tryz.results48, go_sem, hd0, hd1, hd2]) rfl ⟨rfl, ?_⟩
                  exact ((hb0.setCell (p := ⟨w.heap.size, 0, none⟩) (Nat.le_refl _) _).setCell (p := ⟨w.heap.size, 1, none⟩) (Nat.le_refl _) _).setCell (p := ⟨w.heap.size, 2, none⟩) (Nat.le_refl _) _
              · have gk1 : (k == 1) = false := by simpa using hk1
                by_cases hk7 : k = 7
                · subst hk7
                  clear hk1
                  cases kv with
                  | true =>
                    obtain rfl := Hsome.out
                    clear Hsome
                    go_wp2
                    refine bodyPost_ret (v := .tuple #[.agg #[.int .i64 10, .string (s.extract i e), .int .i64 i], .int .i64 e]) (by simp [results, Tryz.results48, go_sem, hd0, hd1, hd2]) rfl ⟨rfl, ?_⟩
                    exact ((hb0.setCell (p := ⟨w.heap.size, 0, none⟩) (Nat.le_refl _) _).setCell (p := ⟨w.heap.size, 1, none⟩) (Nat.le_refl _) _).setCell (p := ⟨w.heap.size, 2, none⟩) (Nat.le_refl _) _
                  | false =>
                    obtain rfl := Hsome.out
                    clear Hsome
                    go_wp2
                    refine bodyPost_ret (v := .tuple #[.agg #[.int .i64 7, .string (s.extract i e), .int .i64 i], .int .i64 e]) (by simp [results, Tryz.results48, go_sem, hd0, hd1, hd2]) rfl ⟨rfl, ?_⟩
                    exact ((hb0.setCell (p := ⟨w.heap.size, 0, none⟩) (Nat.le_refl _) _).setCell (p := ⟨w.heap.size, 1, none⟩) (Nat.le_refl _) _).setCell (p := ⟨w.heap.size, 2, none⟩) (Nat.le_refl _) _
                · have gk7 : (k == 7) = false := by simpa using hk7
                  have hE := Hsome.out
                  rw [if_neg (by omega)] at hE
                  obtain rfl := hE
                  clear Hsome hk1 hk7
                  go_wp2
                  refine bodyPost_ret (v := .tuple #[.agg #[.int .i64 k, .string (s.extract i e), .int .i64 i], .int .i64 e]) (by simp [results, Tryz.results48, go_sem, hd0, hd1, hd2]) rfl ⟨rfl, ?_⟩
                  exact ((hb0.setCell (p := ⟨w.heap.size, 0, none⟩) (Nat.le_refl _) _).setCell (p := ⟨w.heap.size, 1, none⟩) (Nat.le_refl _) _).setCell (p := ⟨w.heap.size, 2, none⟩) (Nat.le_refl _) _
end Go.Proofs.YtmkfeanggmjhmaaGreat.S

/- Walks: keywords. -/
namespace Go.Proofs.YtmkfeanggmjhmaaGreat.S
open Go Go.RowKit Go.Proofs.YtmkfeanggmjhmaaGreatW.PrintWords Go.Proofs.YtmkfeanggmjhmaaGreatW.PrintLast Go.Proofs.YtmkfeanggmjhmaaGreatW.PrintMore
open Go.Proofs.YtmkfeanggmjhmaaGreat.M Go.Proofs.YtmkfeanggmjhmaaGreat.K
set_option linter.unusedSimpArgs false
set_option linter.unusedVariables false

set_option maxHeartbeats 1000000 in
theorem isKeyword_calls (s : ByteArray) (hs : s.size ≤ 1000000000000) (w : World) :
    Calls Tryz.prog 34 #[.string s] w fun r w' => r = .returned (.bool (kwB s)) ∧ Drawn0 w w' := by
  have HI := Lib.hid (fun w => ident_calls s (by omega) 0 (by omega) w)
  have HR := Lib.hid (fun w => run_calls s (by omega) 0 (by omega) w)
  have HN := Lib.hid (fun w => named_calls s (by omega) 0 (by omega) (by omega) w)
  change Hid (∀ w, Calls _ _ _ _ fun r w' => r = .returned (.int .i64 (identE s 0)) ∧ _) at HI
  change Hid (∀ w, Calls _ _ _ _ fun r w' => r = .returned (.int .i64 (runE s 0)) ∧ _) at HR
  change Hid (∀ w, Calls _ _ _ _ fun r w' => r = .returned (.int .i64 (namedE s 0)) ∧ _) at HN
  unfold kwB
  have htl : s.toList = s.data.toList := Lib.toList_data _
  by_cases h0 : s.size = 0
  · have g0 : ((s.size : Int) == 0) = true := by simp [h0]
    have e : (decide (s.size = 0) || decide (40 < s.size) || decide (s.data.toList = opened) || decide (s.data.toList = closed)) = true := by rw [decide_eq_true h0]; rfl
    rw [e]
    clear e h0 htl
    go_enter Tryz.func34, Tryz.ntmps34
    go_wp2
    go_ret
    exact ⟨rfl, Drawn0.refl _⟩
  · have g0 : ((s.size : Int) == 0) = false := beq_eq_false_iff_ne.2 (by omega)
    by_cases h40 : 40 < s.size
    · have g40 : (40 : Int) < (s.size : Int) := by omega
      have e : (decide (s.size = 0) || decide (40 < s.size) || decide (s.data.toList = opened) || decide (s.data.toList = closed)) = true := by simp [h40]
      rw [e]
      clear e h0 htl
      go_enter Tryz.func34, Tryz.ntmps34
      go_wp2
      go_ret
      exact ⟨rfl, Drawn0.refl _⟩
    · have g40 : ¬ (40 : Int) < (s.size : Int) := by omega
      by_cases hop : s.data.toList = opened
      · have gop : (s.toList == [92, 60, 111, 112, 101, 110, 62]) = true := by rw [htl, hop]; rfl
        have e : (decide (s.size = 0) || decide (40 < s.size) || decide (s.data.toList = opened) || decide (s.data.toList = closed)) = true := by simp [hop]
        rw [e]
        clear e h0 htl hop
        go_enter Tryz.func34, Tryz.ntmps34
        go_wp2
        go_ret
        exact ⟨rfl, Drawn0.refl _⟩
      · have gop : (s.toList == [92, 60, 111, 112, 101, 110, 62]) = false := by rw [htl]; exact beq_eq_false_iff_ne.2 hop
        by_cases hcl : s.data.toList = closed
        · have gcl : (s.toList == [92, 60, 99, 108, 111, 115, 101, 62]) = true := by rw [htl, hcl]; rfl
          have e : (decide (s.size = 0) || decide (40 < s.size) || decide (s.data.toList = opened) || decide (s.data.toList = closed)) = true := by simp [hcl]
          rw [e]
          clear e h0 htl hop hcl
          go_enter Tryz.func34, Tryz.ntmps34
          go_wp2
          go_ret
          exact ⟨rfl, Drawn0.refl _⟩
        · have gcl : (s.toList == [92, 60, 99, 108, 111, 115, 101, 62]) = false := by rw [htl]; exact beq_eq_false_iff_ne.2 hcl
          have e : (decide (s.size = 0) || decide (40 < s.size) || decide (s.data.toList = opened) || decide (s.data.toList = closed)) = false := by rw [decide_eq_false h0, decide_eq_false h40, decide_eq_false hop, decide_eq_false hcl]; rfl
          rw [e, Bool.not_false, Bool.true_and]
          have hlt : 0 < s.size := by omega
          have hltz : (0 : Int) < (s.size : Int) := by omega
          clear e htl hop hcl h0
          have hbt : bt s 0 = ((s[0]'hlt).toNat : Int) := by unfold bt; simp [hlt]
          have HB := Lib.hid (fun w => isPoint_calls ((s[0]'hlt).toNat : Int) w)
          rw [hbt]
          clear hbt
          generalize pointB ((s[0]'hlt).toNat : Int) = pt at HB ⊢
          generalize identE s 0 = a at HI ⊢
          generalize runE s 0 = b at HR ⊢
          generalize namedE s 0 = c at HN ⊢
          by_cases ha : a = s.size
          · have ga : ((a : Int) == (s.size : Int)) = true := by simp; omega
            rw [show decide (a = s.size) = true by simpa using ha, Bool.true_or, Bool.true_or, Bool.true_or]
            clear ha
            go_enter Tryz.func34, Tryz.ntmps34
            go_wp2_with (go_at_call 42; refine (HI.out _).mono ?_; rintro e w' ⟨rfl, ⟨nd, rfl⟩⟩)
            go_ret
            exact ⟨rfl, by repeat (first | exact Drawn0.refl _ | apply Drawn0.step)⟩
          · have ga : ((a : Int) == (s.size : Int)) = false := by simp; omega
            rw [show decide (a = s.size) = false by simpa using ha, Bool.false_or]
            clear ha
            by_cases hb : b = s.size
            · have gb : ((b : Int) == (s.size : Int)) = true := by simp; omega
              rw [show decide (b = s.size) = true by simpa using hb, Bool.true_or, Bool.true_or]
              clear hb
              go_enter Tryz.func34, Tryz.ntmps34
              go_wp2_with (first | (go_at_call 42; refine (HI.out _).mono ?_; rintro e w' ⟨rfl, ⟨nd, rfl⟩⟩) | (go_at_call 43; refine (HR.out _).mono ?_; rintro e w' ⟨rfl, ⟨nd, rfl⟩⟩))
              go_ret
              exact ⟨rfl, by repeat (first | exact Drawn0.refl _ | apply Drawn0.step)⟩
            · have gb : ((b : Int) == (s.size : Int)) = false := by simp; omega
              rw [show decide (b = s.size) = false by simpa using hb, Bool.false_or]
              clear hb
              by_cases hc : c = s.size
              · have gc : ((c : Int) == (s.size : Int)) = true := by simp; omega
                rw [show decide (c = s.size) = true by simpa using hc, Bool.true_or]
                clear hc
                go_enter Tryz.func34, Tryz.ntmps34
                go_wp2_with (first | (go_at_call 42; refine (HI.out _).mono ?_; rintro e w' ⟨rfl, ⟨nd, rfl⟩⟩) | (go_at_call 43; refine (HR.out _).mono ?_; rintro e w' ⟨rfl, ⟨nd, rfl⟩⟩) | (go_at_call 44; refine (HN.out _).mono ?_; rintro e w' ⟨rfl, ⟨nd, rfl⟩⟩))
                go_ret
                exact ⟨rfl, by repeat (first | exact Drawn0.refl _ | apply Drawn0.step)⟩
              · have gc : ((c : Int) == (s.size : Int)) = false := by simp; omega
                rw [show decide (c = s.size) = false by simpa using hc, Bool.false_or]
                clear hc
                by_cases h1 : s.size = 1
                · have g1 : ((s.size : Int) == 1) = true := by simp; omega
                  rw [show decide (s.size = 1) = true by simpa using h1, Bool.true_and]
                  clear h1
                  go_enter Tryz.func34, Tryz.ntmps34
                  go_wp2_with (first | (go_at_call 42; refine (HI.out _).mono ?_; rintro e w' ⟨rfl, ⟨nd, rfl⟩⟩) | (go_at_call 43; refine (HR.out _).mono ?_; rintro e w' ⟨rfl, ⟨nd, rfl⟩⟩) | (go_at_call 44; refine (HN.out _).mono ?_; rintro e w' ⟨rfl, ⟨nd, rfl⟩⟩) | (go_at_call 45; refine (HB.out _).mono ?_; rintro e w' ⟨rfl, ⟨nd, rfl⟩⟩))
                  go_ret
                  exact ⟨rfl, by repeat (first | exact Drawn0.refl _ | apply Drawn0.step)⟩
                · have g1 : ((s.size : Int) == 1) = false := by simp; omega
                  rw [show decide (s.size = 1) = false by simpa using h1, Bool.false_and]
                  clear h1
                  go_enter Tryz.func34, Tryz.ntmps34
                  go_wp2_with (first | (go_at_call 42; refine (HI.out _).mono ?_; rintro e w' ⟨rfl, ⟨nd, rfl⟩⟩) | (go_at_call 43; refine (HR.out _).mono ?_; rintro e w' ⟨rfl, ⟨nd, rfl⟩⟩) | (go_at_call 44; refine (HN.out _).mono ?_; rintro e w' ⟨rfl, ⟨nd, rfl⟩⟩))
                  go_ret
                  exact ⟨rfl, by repeat (first | exact Drawn0.refl _ | apply Drawn0.step)⟩

/-- the place of a string in a row that is read -/
theorem str_at {w : World} {A : Option Addr} {l : List ByteArray} (h : Kd.C Kd.string w A l.length l) (k : Nat) (hk : k < l.length) : ∃ ad, A = some ad ∧ w.cell? (ad.add k) = some (.string (l[k]'hk)) := by
  obtain ⟨ad, e, hc⟩ := Kd.at_string h k (by omega) (by omega)
  refine ⟨ad, e, ?_⟩
  rw [Int.toNat_natCast] at hc
  rw [hc]
  simp [rdOf, hk]

def WordsEnd (l : List ByteArray) (E : Int) (w : World) (r : Ending) (w' : World) : Prop :=
  r = .returned (.tuple #[if E = 0 then .map (some w.heap.size) else .map none, .int .i64 E]) ∧ (E = 0 → KwSet w' w.heap.size l.length (fun t => l.any (fun x => t == x.data.toList))) ∧ Below w.heap.size w w'
theorem WordsEnd.err {l : List ByteArray} {E : Int} {w w' : World} (hE : E ≠ 0) (hb : Below w.heap.size w w') : WordsEnd l E w (.returned (.tuple #[.map none, .int .i64 E])) w' :=
  ⟨by rw [if_neg hE], fun h => absurd h hE, hb⟩

set_option maxRecDepth 100000 in
set_option maxHeartbeats 2000000 in
theorem words_calls (A : Option Addr) (c : Nat) (l : List ByteArray) (hl : ∀ x ∈ l, x.size ≤ 1000000000000) (hc : l.length ≤ c) (w : World) (hr : Kd.C Kd.string w A l.length l) :
    Calls Tryz.prog 20 #[.slice A l.length c] w fun r w' =>
      WordsEnd l (checkE l) w r w' := by
  have hmm := @run_makeMap Tryz.prog
  unfold checkE
  by_cases h500 : 500 < l.length
  · rw [if_pos h500]
    have g : (500 : Int) < (l.length : Int) := by omega
    have Hr := Lib.hid hr
    clear hr
    go_enter Tryz.func20, Tryz.ntmps20
    go_wp2
    go_ret2
    exact WordsEnd.err (by decide) (Below.refl _ _)
  · rw [if_neg h500]
    have g : ¬ (500 : Int) < (l.length : Int) := by omega
    have Hl := Lib.hid hl
    clear hl
    have Hr := Lib.hid hr
    clear hr
    generalize hE : checkL [] l = E
    have HE := Lib.hid hE
    clear hE
    go_enter Tryz.func20, Tryz.ntmps20
    go_wp2
    go_loopg [13] l.length (fun gg v wr => ∃ k : Nat, v = .int .i64 k ∧ k ≤ l.length ∧ l.length - k ≤ gg ∧ Hid (checkL (l.take k) (l.drop k) = E) ∧ KwSet wr w.heap.size k (fun t => (l.take k).any (fun x => t == x.data.toList)) ∧ Below w.heap.size w wr)
    case atStart => exact ⟨0, rfl, by omega, by omega, by simpa using HE, by simpa using KwSet.made w, (Below.refl _ _).alloc (Nat.le_refl _) _⟩
    case round =>
      obtain ⟨k, rfl, hk, hg, HL, hset, hbl⟩ := hrel
      have Hset := Lib.hid hset
      clear hset
      have Hbl := Lib.hid hbl
      clear hbl
      by_cases hlt : k < l.length
      · have hltz : (k : Int) < (l.length : Int) := by omega
        obtain ⟨ad, rfl, hcell⟩ := str_at (Kd.C_below Hr.out Hbl.out) k hlt
        have hx := Hl.out _ (List.getElem_mem hlt)
        have Hd : Hid (l.drop k = (l[k]'hlt) :: l.drop (k + 1)) := List.drop_eq_getElem_cons hlt
        have Ht : Hid (l.take (k + 1) = l.take k ++ [l[k]'hlt]) := by rw [List.take_succ_eq_append_getElem hlt]; rfl
        generalize l[k]'hlt = x at hcell hx Hd Ht
        rw [Hd.out, checkL] at HL
        have HK := Lib.hid (fun w => isKeyword_calls x hx w)
        generalize kwB x = kb at HK HL
        cases kb with
        | false =>
          obtain rfl := HL.out
          clear HL
          go_wp2_with (go_at_call 34; refine (HK.out _).mono ?_; rintro e w' ⟨rfl, ⟨nd, rfl⟩⟩)
          go_ret2
          exact WordsEnd.err (by decide) (below_drewN Hbl.out _)
        | true =>
          rw [if_pos rfl] at HL
          go_wp2_with fail
          refine (HK.out _).mono ?_
          rintro e w' ⟨rfl, ⟨nd, rfl⟩⟩
          have hset : KwSet (wr.drewN nd) w.heap.size k (fun t => (l.take k).any (fun x => t == x.data.toList)) := Hset.out.same rfl
          have hxm : x.size ≤ maxLen := by unfold maxLen; omega
          have hlook := hset.lookup x hxm
          have Hset' := Lib.hid hset
          clear hset
          generalize hany : ((l.take k).any fun y => x.data.toList == y.data.toList) = an at HL hlook
          clear hany
          cases an with
          | true =>
            rw [if_pos rfl] at HL
            obtain rfl := HL.out
            clear HL
            go_wp2
            go_ret2
            exact WordsEnd.err (by decide) (below_drewN Hbl.out _)
          | false =>
            rw [if_neg (by decide)] at HL
            obtain ⟨w2, hup, hset2, hg2⟩ := Hset'.out.update (by unfold maxLen; omega) x hxm
            have Hset2 := Lib.hid hset2
            clear hset2
            have Hg2 := Lib.hid hg2
            clear hg2
            go_wp2
            go_roundg (l.length - (k + 1))
            case measure => omega
            case rel =>
              refine ⟨k + 1, by go_num, by omega, Nat.le_refl _, ?_, ?_, ?_⟩
              · rw [Ht.out]; exact HL
              · rw [Ht.out]
                have e : (fun t => (List.take k l ++ [x]).any fun y => t == y.data.toList) = (fun t => ((List.take k l).any fun y => t == y.data.toList) || t == x.data.toList) := by
                  funext t; simp [List.any_append]
                rw [e]
                exact Hset2.out
              · exact (below_drewN Hbl.out nd).grown Hg2.out (by have := Hbl.out.size; show _ ≤ wr.heap.size; exact this) (fun k hk => by cases hk; exact Nat.le_refl _)
      · have hltz : ¬ (k : Int) < (l.length : Int) := by omega
        have hkl : k = l.length := by omega
        have Hkl := Lib.hid hkl
        clear hkl
        have hE0 := HL.out
        rw [show l.drop k = [] by rw [Hkl.out]; simp] at hE0
        obtain rfl : (0 : Int) = E := by simpa [checkL] using hE0
        clear hE0 HL
        go_wp2
        go_ret2
        refine (show WordsEnd _ _ _ _ _ from ⟨rfl, fun _ => ?_, Hbl.out⟩)
        have := Hset.out
        rw [Hkl.out] at this
        simpa using this

end Go.Proofs.YtmkfeanggmjhmaaGreat.S

/- Walk: the iterator of tokens. -/
namespace Go.Proofs.YtmkfeanggmjhmaaGreat.S
open Go Go.RowKit Go.Shelf Go.Proofs.YtmkfeanggmjhmaaGreatW.PrintWords Go.Proofs.YtmkfeanggmjhmaaGreatW.PrintLast Go.Proofs.YtmkfeanggmjhmaaGreatW.PrintMore
open Go.Proofs.YtmkfeanggmjhmaaGreat.M Go.Proofs.YtmkfeanggmjhmaaGreat.K
set_option linter.unusedSimpArgs false
set_option linter.unusedVariables false
attribute [local go_sem] Oper.semAt_some

def encT (x : Tok) : Array Value := #[.agg #[.int .i64 x.kind, .string x.text, .int .i64 x.at_]]

theorem blanks_in (bx : Nat) (s : ByteArray) (i : Int) (h0 : 0 ≤ i) (hi : i ≤ s.size) (w : World) (hx : w.cell? ⟨bx, 1, none⟩ = some (.string s)) (hs : s.size ≤ 1000000000000) (n : Nat) :
    CallsIn Fence.wide n Tryz.prog 47 #[.pointer (some ⟨bx, 0, none⟩), .int .i64 i] w fun r w' => r = blanksR (blanksE s i.toNat) ∧ Below w.heap.size w w' :=
  callsIn_wide.2 (blanks_calls bx s i h0 hi w hx hs)
theorem one_in (bx bm n : Nat) (p : List UInt8 → Bool) (s : ByteArray) (i : Int) (h0 : 0 ≤ i) (hi : i < s.size) (w : World)
    (hm : w.cell? ⟨bx, 0, none⟩ = some (.map (some bm))) (hx : w.cell? ⟨bx, 1, none⟩ = some (.string s)) (hk : KwSet w bm n p) (hs : s.size ≤ 1000000000000) (m : Nat) :
    CallsIn Fence.wide m Tryz.prog 48 #[.pointer (some ⟨bx, 0, none⟩), .int .i64 i] w fun r w' => r = oneR i.toNat (oneE p s i.toNat) ∧ Below w.heap.size w w' :=
  callsIn_wide.2 (one_calls bx bm n p s i h0 hi w hm hx hk hs)

/-- how the iterator of tokens ends -/
def TokEnd (sc : List Tok × Option (Nat × Int)) (J Jx : List Tok → (Nat → Prop) → World → Prop) (e : Ending) (W : World) : Prop :=
  (∃ v, e = .returned v ∧ ((∃ xs M, sc = (xs, none) ∧ J xs M W) ∨ (∃ pre M, True ∧ Jx pre M W))) ∨
    (∃ chain pre M, e = .panicked chain ∧ (∃ q c, sc = (pre, some (q, c)) ∧ chain = [{ v := stopV q c, recovered := false }]) ∧ J pre M W)

set_option maxHeartbeats 4000000 in
theorem tokens_iter (bb bx bm n : Nat) (p : List UInt8 → Bool) (s : ByteArray) (w : World) (hbb : w.cell? ⟨bb, 0, none⟩ = some (.pointer (some ⟨bx, 0, none⟩)))
    (hm : w.cell? ⟨bx, 0, none⟩ = some (.map (some bm))) (hx : w.cell? ⟨bx, 1, none⟩ = some (.string s)) (hk : KwSet w bm n p) (hs : s.size ≤ 1000000000000) :
    IterAt Tryz.prog 46 #[.pointer (some ⟨bb, 0, none⟩)] encT (fun xs => scanE p s = (xs, none)) (fun _ => True)
      (fun pre chain => ∃ q c, scanE p s = (pre, some (q, c)) ∧ chain = [{ v := stopV q c, recovered := false }]) (s.size + 1) (fun k => k ≠ bb ∧ k ≠ bx ∧ k ≠ bm) w := by
  intro l M0 J Jx hM0 hJ hJx hJM hY h0
  have hpan := run_panic_iface
  have hbb0 : bb < w.heap.size := lt_of_cell hbb
  have hbx0 : bx < w.heap.size := lt_of_cell hx
  have hbm0 : bm < w.heap.size := hk.lt
  have HY := Lib.hid hY
  clear hY
  have HJ := Lib.hid hJ
  clear hJ
  have HM0 := Lib.hid hM0
  clear hM0
  have HJM := Lib.hid hJM
  clear hJM
  clear hJx
  have HB0 := Lib.hid (fun i h0 hi W hX => blanks_in bx s i h0 hi W hX hs 0)
  have HO := Lib.hid (fun i h0 hi W hM hX hK => one_in bx bm n p s i h0 hi W hM hX hK hs 0)
  have HB := Lib.hid (HB0.out 0 (by omega) (by omega) w hx)
  change Hid (CallsIn _ _ _ _ _ _ fun r w' => r = blanksR (blanksE s 0) ∧ _) at HB
  change CallsIn _ _ _ _ _ _ (TokEnd (scanE p s) J Jx)
  generalize hSC : scanE p s = SC
  unfold scanE at hSC
  refine callsIn_of_wp Tryz.func46 rfl trivial ?_ rfl
  simp only [Tryz.ntmps46, List.size_toArray, List.length_cons, List.length_nil, Nat.reduceAdd, Nat.reduceSub, Array.replicate_succ, Array.replicate_zero, List.push_toArray, List.append_toArray, List.nil_append, List.cons_append]
  cases hb0 : blanksE s 0 with
  | error q =>
    rw [hb0] at HB hSC
    have HSC := Lib.hid hSC
    clear hb0 hSC
    gi_wp2
    refine ⟨trivial, rfl, ?_⟩
    refine HB.out.mono ?_
    rintro e w1 ⟨rfl, hb⟩
    unfold blanksR stopE
    gi_wp2
    refine ⟨rfl, .inr ⟨_, [], M0, rfl, ⟨q, 162, HSC.out.symm, rfl⟩, ?_⟩⟩
    exact HJ.out _ _ _ _ h0 (Chg.of_fresh hb)
  | ok j =>
    have hcl := blanksE_le (by omega) hb0
    rw [hb0] at HB hSC
    clear hb0
    have hj : j ≤ s.size := hcl.2
    clear hcl
    change scanFrom p s j [] = SC at hSC
    have HSC := Lib.hid hSC
    clear hSC
    gi_wp2
    refine ⟨trivial, rfl, ?_⟩
    refine HB.out.mono ?_
    rintro e w1 ⟨rfl, hb⟩
    unfold blanksR
    gi_wp2
    gi_loopw [3] (fun v wr => ∃ (k : Nat) (pre : List Tok) (M : Nat → Prop), v = .int .i64 k ∧ k ≤ s.size ∧ pre.length ≤ k ∧ Hid (scanFrom p s k pre = SC) ∧ J pre M wr ∧ (∀ b, M b → (b ≠ bb ∧ b ≠ bx ∧ b ≠ bm)) ∧ w.heap.size ≤ wr.heap.size ∧
      wr.cell? ⟨bb, 0, none⟩ = some (.pointer (some ⟨bx, 0, none⟩)) ∧ wr.cell? ⟨bx, 0, none⟩ = some (.map (some bm)) ∧ wr.cell? ⟨bx, 1, none⟩ = some (.string s) ∧ KwSet wr bm n p) (fun v _ => s.size - (intOf v).toNat)
    case atStart =>
      refine ⟨j, [], M0, rfl, hj, by simp, HSC, HJ.out _ _ _ _ h0 (Chg.of_fresh hb), HM0.out, hb.size, ?_, ?_, ?_, hk.below hb hbm0⟩
      · exact (hb.cell (p := ⟨bb, 0, none⟩) hbb0).trans hbb
      · exact (hb.cell (p := ⟨bx, 0, none⟩) hbx0).trans hm
      · exact (hb.cell (p := ⟨bx, 1, none⟩) hbx0).trans hx
    case round =>
      obtain ⟨k, pre, M, rfl, hks, hlen, HR, hJs, hMs, hsz, hbb1, hm1, hx1, hk1⟩ := hrel
      clear hbb hm hx hk h0 HB HSC hb
      by_cases hlt : k < s.size
      · have hltz : (k : Int) < (s.size : Int) := by omega
        have Heq := Lib.hid ((scanFrom_eq p s k pre hlt).symm.trans HR.out)
        have HC := Lib.hid (HO.out k (by omega) hltz wr hm1 hx1 hk1)
        rw [Int.toNat_natCast] at HC
        cases ho : oneE p s k with
        | error c =>
          rw [ho] at Heq HC
          clear ho
          gi_wp2
          refine ⟨trivial, rfl, ?_⟩
          refine HC.out.mono ?_
          rintro e w2 ⟨rfl, hb2⟩
          unfold oneR stopE
          gi_wp2
          refine ⟨rfl, .inr ⟨_, pre, M, rfl, ⟨k, c, Heq.out.symm, rfl⟩, ?_⟩⟩
          exact HJ.out _ _ _ _ hJs (Chg.of_fresh hb2)
        | ok r =>
          obtain ⟨⟨kd, tx⟩, en⟩ := r
          have hel := oneE_lt hlt ho
          simp only at hel
          rw [ho] at Heq HC
          clear ho
          gi_wp2
          refine ⟨trivial, rfl, ?_⟩
          refine HC.out.mono ?_
          rintro e w2 ⟨rfl, hb2⟩
          unfold oneR
          clear HC
          have hbb3 : (w2.alloc (.cells #[.int .i64 kd, .string tx, .int .i64 k] 30)).cell? ⟨bb, 0, none⟩ = some (.pointer (some ⟨bx, 0, none⟩)) :=
            (cell_old _ _ _ _ (by have := hb2.size; omega)).trans ((hb2.cell (p := ⟨bb, 0, none⟩) (by show bb < _; omega)).trans hbb1)
          have hm3 : (w2.alloc (.cells #[.int .i64 kd, .string tx, .int .i64 k] 30)).cell? ⟨bx, 0, none⟩ = some (.map (some bm)) :=
            (cell_old _ _ _ _ (by have := hb2.size; omega)).trans ((hb2.cell (p := ⟨bx, 0, none⟩) (by show bx < _; omega)).trans hm1)
          have hx3 : (w2.alloc (.cells #[.int .i64 kd, .string tx, .int .i64 k] 30)).cell? ⟨bx, 1, none⟩ = some (.string s) :=
            (cell_old _ _ _ _ (by have := hb2.size; omega)).trans ((hb2.cell (p := ⟨bx, 1, none⟩) (by show bx < _; omega)).trans hx1)
          have hk3 : KwSet (w2.alloc (.cells #[.int .i64 kd, .string tx, .int .i64 k] 30)) bm n p := (hk1.below hb2 (by omega)).chg (Chg.alloc (fun _ => False) _ _) (fun e => e)
          have hJ3 := HJ.out _ _ _ (w2.alloc (.cells #[.int .i64 kd, .string tx, .int .i64 k] 30)) hJs ((Chg.of_fresh hb2).trans (Chg.alloc _ _ _))
          have hsz3 : w.heap.size ≤ (w2.alloc (.cells #[.int .i64 kd, .string tx, .int .i64 k] 30)).heap.size := by have := hb2.size; simp; omega
          obtain ⟨fn, tmps, assign, body, hy, hRd⟩ := HY.out pre M ⟨kd, tx, k⟩ _ hJ3 (by omega)
          unfold encT at hy
          dsimp only at hy
          have Hk3 := Lib.hid hk3
          clear hk1 hbb1 hm1 hx1 hk3
          gi_wp2
          generalize w2.alloc (.cells #[.int .i64 kd, .string tx, .int .i64 k] 30) = w3 at hy hRd hbb3 hm3 hx3 Hk3 hJ3 hsz3 ⊢
          refine ⟨rfl, ?_⟩
          refine hRd.mono ?_
          rintro e w4 (⟨rfl, M', hJ4, hc4, hM4⟩ | ⟨rfl, M', hJ4, hc4, hM4⟩)
          · have hbb4 := hc4.cell hbb3 (fun h => (hMs _ h).1 rfl)
            have hm4 := hc4.cell hm3 (fun h => (hMs _ h).2.1 rfl)
            have hx4 := hc4.cell hx3 (fun h => (hMs _ h).2.1 rfl)
            have hk4 := Hk3.out.chg hc4 (fun h => (hMs _ h).2.2 rfl)
            have hs4 := hc4.size
            have HBn := Lib.hid (HB0.out en (by omega) (by omega) w4 hx4)
            rw [Int.toNat_natCast] at HBn
            have Hk4 := Lib.hid hk4
            clear hk4 hbb3 hm3 hx3 Hk3
            cases hbl : blanksE s en with
            | error q =>
              rw [hbl] at HBn Heq
              clear hbl
              gi_wp2
              refine ⟨trivial, rfl, ?_⟩
              refine HBn.out.mono ?_
              rintro e w5 ⟨rfl, hb5⟩
              unfold blanksR stopE
              gi_wp2
              refine ⟨rfl, .inr ⟨_, pre ++ [⟨kd, tx, k⟩], M', rfl, ⟨q, 162, Heq.out.symm, rfl⟩, ?_⟩⟩
              exact HJ.out _ _ _ _ hJ4 (Chg.of_fresh hb5)
            | ok j2 =>
              have hj2 := blanksE_le (by omega) hbl
              rw [hbl] at HBn Heq
              clear hbl
              gi_wp2
              refine ⟨trivial, rfl, ?_⟩
              refine HBn.out.mono ?_
              rintro e w5 ⟨rfl, hb5⟩
              unfold blanksR
              gi_wp2
              go_roundw
              case rel =>
                refine ⟨j2, pre ++ [⟨kd, tx, k⟩], M', rfl, hj2.2, by simp; omega, Heq, HJ.out _ _ _ _ hJ4 (Chg.of_fresh hb5), ?_, by have := hb5.size; omega, ?_, ?_, ?_, Hk4.out.below hb5 (by omega)⟩
                · intro b hb
                  rcases hM4 b hb with h | h
                  · exact hMs b h
                  · exact ⟨by omega, by omega, by omega⟩
                · exact (hb5.cell (p := ⟨bb, 0, none⟩) (by show bb < _; omega)).trans hbb4
                · exact (hb5.cell (p := ⟨bx, 0, none⟩) (by show bx < _; omega)).trans hm4
                · exact (hb5.cell (p := ⟨bx, 1, none⟩) (by show bx < _; omega)).trans hx4
              case measure => simp [intOf]; omega
          · gi_wp2
            refine bodyPost_ret (results_none rfl _ _ _) rfl ?_
            exact .inl ⟨_, rfl, .inr ⟨_, M', trivial, hJ4⟩⟩
      · have hltz : ¬ (k : Int) < (s.size : Int) := by omega
        have Heq := Lib.hid ((scanFrom_end p s k pre (by omega)).symm.trans HR.out)
        gi_wp2
        go_end0
        exact .inl ⟨_, rfl, .inl ⟨pre, M, Heq.out.symm, hJs⟩⟩
end Go.Proofs.YtmkfeanggmjhmaaGreat.S

/- Walk: all tokens of a text, with the recovery of what stops the scanner. -/
namespace Go.Proofs.YtmkfeanggmjhmaaGreat.S
open Go Go.RowKit Go.Shelf Go.Proofs.YtmkfeanggmjhmaaGreatW.PrintWords Go.Proofs.YtmkfeanggmjhmaaGreatW.PrintLast Go.Proofs.YtmkfeanggmjhmaaGreatW.PrintMore
open Go.Proofs.YtmkfeanggmjhmaaGreat.M Go.Proofs.YtmkfeanggmjhmaaGreat.K
set_option linter.unusedSimpArgs false
set_option linter.unusedVariables false
attribute [local go_sem] Oper.semAt_some

theorem tokens_calls (bx : Nat) (w : World) :
    Calls Tryz.prog 36 #[.pointer (some ⟨bx, 0, none⟩)] w fun r w' =>
      r = .returned (.func (.func 46) #[] #[.pointer (some ⟨w.heap.size, 0, none⟩)]) ∧ w' = w.alloc (.cells #[.pointer (some ⟨bx, 0, none⟩)] 66) := by
  have hmf : ∀ (fn : Fn) (first cap : Array Value) (w : World), (Instr.makeFunc fn first cap).run Tryz.prog w = .ok (.func fn first cap) w := fun _ _ _ _ => rfl
  go_enter Tryz.func36, Tryz.ntmps36
  go_wp2
  go_ret
  exact ⟨rfl, rfl⟩

def tokCells (x : Tok) : List Value := [.int .i64 x.kind, .string x.text, .int .i64 x.at_]

theorem catch_idle (pa pb pc : Addr) (w : World) :
    CallsDIn Fence.wide 0 Tryz.prog 35 #[.pointer (some pa), .pointer (some pb), .pointer (some pc)] .returning w fun e u' w' => e = .returned (.tuple #[]) ∧ u' = .returning ∧ w' = w := by
  refine callsDIn_of_wpSIn Tryz.func35 rfl trivial fun c₀ cs hu => ?_
  apply wpSIn_seq
  apply wpSIn_region
  simp [wpOpsSIn, go_sem, recoverD, hu, Tryz.ntmps35, Exit.thenS, Fence.wide]
  apply wpSIn_seq
  apply wpSIn_region
  simp [wpOpsSIn, go_sem, Exit.thenS, Fence.wide]
  refine wpSIn_cond (t := false) (by simp [Act.eval, Array.replicate]) ?_
  simp only [Bool.false_eq_true, if_false]
  refine wpSIn_of_wpIn rfl (wpIn_skip ?_)
  cases c₀
  simp_all [bodyPostS, results, Tryz.results35]

/-- what the recovery leaves -/
def Caught (b : Nat) (q : Nat) (c : Int) (chain : List PanicEntry) (w : World) (e : Ending) (u : FrameMode) (w' : World) : Prop :=
  e = .returned (.tuple #[]) ∧ u = .panicking chain ∧ Chg (fun k => k = b ∨ k = b + 1 ∨ k = b + 2) w w' ∧
    w'.cell? ⟨b, 0, none⟩ = some (.slice none 0 0) ∧ w'.cell? ⟨b + 1, 0, none⟩ = some (.int .i64 q) ∧ w'.cell? ⟨b + 2, 0, none⟩ = some (.int .i64 c)

set_option maxHeartbeats 1000000 in
theorem catch_panicking (b : Nat) (va vb vc : Value) (q : Nat) (c : Int) (older : List PanicEntry) (w : World)
    (ha : w.cell? ⟨b, 0, none⟩ = some va) (hb : w.cell? ⟨b + 1, 0, none⟩ = some vb) (hc : w.cell? ⟨b + 2, 0, none⟩ = some vc)
    (hfa : w.frozen? ⟨b, 0, none⟩ = false) (hfb : w.frozen? ⟨b + 1, 0, none⟩ = false) (hfc : w.frozen? ⟨b + 2, 0, none⟩ = false) :
    CallsDIn Fence.wide 0 Tryz.prog 35 #[.pointer (some ⟨b, 0, none⟩), .pointer (some ⟨b + 1, 0, none⟩), .pointer (some ⟨b + 2, 0, none⟩)]
      (.panicking ({ v := stopV q c, recovered := false } :: older)) w (Caught b q c ({ v := stopV q c, recovered := true } :: older) w) := by
  refine callsDIn_of_wpSIn Tryz.func35 rfl trivial fun c₀ cs hu => ?_
  unfold stopV at hu ⊢
  simp only [Tryz.ntmps35, List.size_toArray, List.length_cons, List.length_nil, Nat.reduceAdd, Nat.reduceSub, Array.replicate_succ, Array.replicate_zero, List.push_toArray, List.append_toArray, List.nil_append, List.cons_append]
  apply wpSIn_seq
  apply wpSIn_region
  simp [wpOpsSIn, go_sem, recoverD, hu, Tryz.ntmps35, Exit.thenS, Fence.wide]
  apply wpSIn_seq
  apply wpSIn_region
  simp [wpOpsSIn, go_sem, Exit.thenS, Fence.wide]
  refine wpSIn_cond (t := true) (by simp [Act.eval]) ?_
  simp only [if_true]
  change Code.wpSIn Fence.wide 0 Tryz.prog _ _ _ _ _
  refine wpSIn_of_wpIn rfl (wpIn_wide.2 ?_)
  refine wp_mono (Q := fun e a' w' => e = .normal ∧ a'.defers = [] ∧ (Chg (fun k => k = b ∨ k = b + 1 ∨ k = b + 2) w w' ∧
    w'.cell? ⟨b, 0, none⟩ = some (.slice none 0 0) ∧ w'.cell? ⟨b + 1, 0, none⟩ = some (.int .i64 q) ∧ w'.cell? ⟨b + 2, 0, none⟩ = some (.int .i64 c))) ?_ ?_
  · have hta : ∀ v W, (Instr.typeAssert (.iface 63 v) 20 63 false).run Tryz.prog W = .ok v W := fun v W => by
      simp [Instr.typeAssert, Tryz.underlying63, Sem.run, go_sem]
    have hf0 : ∀ W, (Instr.field 63 (.agg #[.int .i64 q, .int .i64 c]) 0).run Tryz.prog W = .ok (.int .i64 q) W := fun W => by
      simp [Instr.field, underlying, part, asAgg, go_sem, Tryz.underlying63, Tryz.underlying3]
    have hf1 : ∀ W, (Instr.field 63 (.agg #[.int .i64 q, .int .i64 c]) 1).run Tryz.prog W = .ok (.int .i64 c) W := fun W => by
      simp [Instr.field, underlying, part, asAgg, go_sem, Tryz.underlying63, Tryz.underlying26]
    go_region
    refine ⟨rfl, rfl, ?_, ?_, ?_, ?_⟩
    · exact (((Chg.setCell (p := ⟨b, 0, none⟩) (.inl rfl) _).trans (Chg.setCell (p := ⟨b + 1, 0, none⟩) (.inr (.inl rfl)) _)).trans (Chg.setCell (p := ⟨b + 2, 0, none⟩) (.inr (.inr rfl)) _)).trans (Chg.drew _ _)
    all_goals simp [go_sem, ha, hb, hc]
  · rintro e a' w' ⟨rfl, hd, hC⟩
    cases c₀
    simp_all [bodyPostS, results, Tryz.results35, Caught]
end Go.Proofs.YtmkfeanggmjhmaaGreat.S

/- Walk: scan. -/
namespace Go.Proofs.YtmkfeanggmjhmaaGreat.S
open Go Go.RowKit Go.Shelf Go.Proofs.YtmkfeanggmjhmaaGreatW.PrintWords Go.Proofs.YtmkfeanggmjhmaaGreatW.PrintLast Go.Proofs.YtmkfeanggmjhmaaGreatW.PrintMore
open Go.Proofs.YtmkfeanggmjhmaaGreat.M Go.Proofs.YtmkfeanggmjhmaaGreat.K
set_option linter.unusedSimpArgs false
set_option linter.unusedVariables false
attribute [local go_sem] Oper.semAt_some

theorem tok_info : (Tryz.prog.info? 30).map (fun i => (i.zero, i.size, i.bytes)) = some (some (.agg #[.int .i64 0, .string ⟨#[]⟩, .int .i64 0]), 3, 32) := by kernel_rfl

theorem toks_new (W : World) (x : Tok) : ∀ j u, (tokCells x)[j]? = some u → (W.alloc (.cells #[.int .i64 x.kind, .string x.text, .int .i64 x.at_] 30)).cell? ((⟨W.heap.size, 0, none⟩ : Addr).add j) = some u := by
  intro j u hj
  have h := cells_at W #[.int .i64 x.kind, .string x.text, .int .i64 x.at_] 30 W.heap.size j rfl
  have e : ((⟨W.heap.size, 0, none⟩ : Addr).add j) = ⟨W.heap.size, j, none⟩ := by cases j <;> simp [Addr.add]
  rw [e, h]
  simpa [tokCells] using hj

/-- how scan ends: v holds the tokens xs -/
def ScanEnd (sc : List Tok × Option (Nat × Int)) (w : World) (r : Ending) (w' : World) : Prop :=
  ∃ v xs q c, r = .returned (.tuple #[v, .int .i64 q, .int .i64 c]) ∧ w'.ownsRow w.heap.size 30 3 v xs.length (xs.flatMap tokCells) ∧
    (sc = (xs, none) ∧ q = 0 ∧ c = 0 ∨ ∃ pre q', sc = (pre, some (q', c)) ∧ q = (q' : Nat) ∧ xs = []) ∧ Below w.heap.size w w'

/-- what lies between two rounds: the box of the result holds a row of the tokens; the boxes of the place and of the error are as they were made -/
def ScanI (b : Nat) (w W0 : World) (pre : List Tok) (M : Nat → Prop) (W : World) : Prop :=
  ∃ v, W.cell? ⟨b, 0, none⟩ = some v ∧ W.frozen? ⟨b, 0, none⟩ = false ∧ (∀ k, M k ↔ (k = b ∨ v.ownBlock = some k)) ∧ W.ownsRow W0.heap.size 30 3 v pre.length (pre.flatMap tokCells) ∧
    W.cell? ⟨b + 1, 0, none⟩ = some (.int .i64 0) ∧ W.frozen? ⟨b + 1, 0, none⟩ = false ∧ W.cell? ⟨b + 2, 0, none⟩ = some (.int .i64 0) ∧ W.frozen? ⟨b + 2, 0, none⟩ = false ∧ Below b w W ∧ W0.heap.size ≤ W.heap.size

theorem Chg.frozen {T : Nat → Prop} {A B : World} (h : Chg T A B) {b off : Nat} {v : Value} (hv : A.cell? ⟨b, off, none⟩ = some v) (hf : A.frozen? ⟨b, off, none⟩ = false) (hn : ¬ T b) : B.frozen? ⟨b, off, none⟩ = false := by
  rw [← hf]; exact World.frozen?_of_block (h.block _ (lt_of_cell hv) hn)

theorem own_slice {w : World} {base : Nat} {e : TypeId} {size n : Nat} {v : Value} {xs : List Value} (h : w.ownsRow base e size v n xs) : ∃ A c, v = .slice A n c := by
  rcases h.2 with ⟨rfl, rfl⟩ | ⟨g, cap, cur, rfl, _⟩
  · exact ⟨_, _, rfl⟩
  · exact ⟨_, _, rfl⟩

theorem ScanI.chg {b : Nat} {w W0 : World} {pre : List Tok} {M : Nat → Prop} {A B : World} {T : Nat → Prop} (hb : b + 5 ≤ W0.heap.size) (h : ScanI b w W0 pre M A) (hc : Chg T A B) (hT : ∀ k, T k → W0.heap.size ≤ k ∧ ¬ M k) : ScanI b w W0 pre M B := by
  obtain ⟨v, h1, h2, hM, ho, h3, h4, h5, h6, h7, h8⟩ := h
  have n0 : ¬ T b := fun e => by have := (hT _ e).1; omega
  have n1 : ¬ T (b + 1) := fun e => by have := (hT _ e).1; omega
  have n2 : ¬ T (b + 2) := fun e => by have := (hT _ e).1; omega
  refine ⟨v, hc.cell h1 n0, Chg.frozen hc h1 h2 n0, hM, ?_, hc.cell h3 n1, Chg.frozen hc h3 h4 n1, hc.cell h5 n2, Chg.frozen hc h5 h6 n2, h7.trans (hc.below (by omega) (fun k hk => by have := (hT _ hk).1; omega)), by have := hc.size; omega⟩
  exact own_move ho (fun k hk => hc.block k (own_lt ho k hk) (fun e => (hT k e).2 ((hM k).2 (.inr hk))))

set_option maxHeartbeats 4000000 in
theorem scan_calls (bm n : Nat) (p : List UInt8 → Bool) (s : ByteArray) (w : World) (hk : KwSet w bm n p) (hs : s.size ≤ 1000000000) :
    Calls Tryz.prog 21 #[.map (some bm), .string s] w (ScanEnd (scanE p s) w) := by
  have hbm : bm < w.heap.size := hk.lt
  have hmf : ∀ (fn : Fn) (first cap : Array Value) (w : World), (Instr.makeFunc fn first cap).run Tryz.prog w = .ok (.func fn first cap) w := fun _ _ _ _ => rfl
  have HT := Lib.hid (fun bx w => tokens_calls bx w)
  generalize hSC : scanE p s = SC
  have HSC := Lib.hid hSC
  clear hSC
  refine (callsIn_wide (n := 0)).1 ?_
  refine callsIn_of_wp_marks Tryz.func21 rfl trivial ?_ rfl
  simp only [Tryz.ntmps21, List.size_toArray, List.length_cons, List.length_nil, Nat.reduceAdd, Nat.reduceSub, Array.replicate_succ, Array.replicate_zero, List.push_toArray, List.append_toArray, List.nil_append, List.cons_append]
  gi_wp2
  refine ⟨trivial, rfl, ?_⟩
  refine (callsIn_wide.2 (HT.out _ _)).mono ?_
  rintro e w1 ⟨rfl, rfl⟩
  gi_wp2
  obtain ⟨W3, hW3⟩ : ∃ W3, ((w.alloc (.cells #[.slice none 0 0] 25)).alloc (.cells #[.int .i64 0] 3)).alloc (.cells #[.int .i64 0] 26) = W3 := ⟨_, rfl⟩
  obtain ⟨W0, hW0⟩ : ∃ W0, (W3.alloc (.cells #[.map (some bm), .string s] 68)).alloc (.cells #[.pointer (some ⟨w.heap.size + 1 + 1 + 1, 0, none⟩)] 66) = W0 := ⟨_, rfl⟩
  have hs3 : W3.heap.size = w.heap.size + 3 := by rw [← hW3]; simp
  have hs0 : W0.heap.size = w.heap.size + 5 := by rw [← hW0]; simp; omega
  have hc3 : Chg (fun _ => False) w W3 := by rw [← hW3]; exact ((Chg.alloc _ _ _).trans (Chg.alloc _ _ _)).trans (Chg.alloc _ _ _)
  have hc30 : Chg (fun _ => False) W3 W0 := by rw [← hW0]; exact (Chg.alloc _ _ _).trans (Chg.alloc _ _ _)
  have hk0 : KwSet W0 bm n p := hk.chg (hc3.trans hc30) (fun e => e)
  have hb0 : Below w.heap.size w W0 := (hc3.trans hc30).below (Nat.le_refl _) (fun _ h => h.elim)
  have ca : W3.cell? ⟨w.heap.size, 0, none⟩ = some (.slice none 0 0) := by rw [← hW3, cell_old _ _ _ _ (by simp; omega), cell_old _ _ _ _ (by simp)]; exact cells_at w _ _ _ 0 rfl
  have fa : W3.frozen? ⟨w.heap.size, 0, none⟩ = false := by rw [← hW3, frozen_old _ _ _ _ (by simp; omega), frozen_old _ _ _ _ (by simp)]; exact frozen_at w _ _ _ 0 rfl
  have cb : W3.cell? ⟨w.heap.size + 1, 0, none⟩ = some (.int .i64 0) := by rw [← hW3, cell_old _ _ _ _ (by simp)]; exact cells_at _ _ _ _ 0 (by simp)
  have fb : W3.frozen? ⟨w.heap.size + 1, 0, none⟩ = false := by rw [← hW3, frozen_old _ _ _ _ (by simp)]; exact frozen_at _ _ _ _ 0 (by simp)
  have cc : W3.cell? ⟨w.heap.size + 2, 0, none⟩ = some (.int .i64 0) := by rw [← hW3]; exact cells_at _ _ _ _ 0 (by simp)
  have fc : W3.frozen? ⟨w.heap.size + 2, 0, none⟩ = false := by rw [← hW3]; exact frozen_at _ _ _ _ 0 (by simp)
  have cd0 : W0.cell? ⟨w.heap.size + 3, 0, none⟩ = some (.map (some bm)) := by rw [← hW0, cell_old _ _ _ _ (by simp; omega)]; exact cells_at _ _ _ _ 0 (by omega)
  have cd1 : W0.cell? ⟨w.heap.size + 3, 1, none⟩ = some (.string s) := by rw [← hW0, cell_old _ _ _ _ (by simp; omega)]; exact cells_at _ _ _ _ 1 (by omega)
  have ce : W0.cell? ⟨w.heap.size + 4, 0, none⟩ = some (.pointer (some ⟨w.heap.size + 3, 0, none⟩)) := by rw [← hW0]; exact cells_at _ _ _ _ 0 (by simp; omega)
  have hI0 : ScanI w.heap.size w W0 [] (fun k => k = w.heap.size) W0 :=
    ⟨_, hc30.cell ca (fun e => e), Chg.frozen hc30 ca fa (fun e => e), fun k => by simp [Value.ownBlock], World.ownsRow_nil _ _ _ _, hc30.cell cb (fun e => e), Chg.frozen hc30 cb fb (fun e => e), hc30.cell cc (fun e => e), Chg.frozen hc30 cc fc (fun e => e), hb0, Nat.le_refl _⟩
  rw [hW3, hW0]
  clear hW3 hW0 ca fa cb fb cc fc hc3 hc30 hs3 hk HT
  have hinfo := tok_info
  obtain ⟨i0, hi, hzz⟩ := Option.map_eq_some_iff.1 hinfo
  simp only [Prod.mk.injEq] at hzz
  obtain ⟨hz0, hz1, hz2⟩ := hzz
  have HI := Lib.hid hi
  have HZ0 := Lib.hid hz0
  have HZ1 := Lib.hid hz1
  have HZ2 := Lib.hid hz2
  clear hinfo hi hz0 hz1 hz2
  refine wp_rangeFunc (gf := 46) (lb := #[.pointer (some ⟨w.heap.size + 1 + 1 + 1 + 1, 0, none⟩)]) rfl (enters_of Tryz.func46 (by kernel_rfl) rfl)
    (fun W1 hc1 _ => tokens_iter (w.heap.size + 4) (w.heap.size + 3) bm n p s W1 (hc1.cell ce (fun e => e)) (hc1.cell cd0 (fun e => e)) (hc1.cell cd1 (fun e => e)) (hk0.chg hc1 (fun e => e)) (by omega))
    ⟨by omega, by omega, by omega⟩ (fun x => rfl) (fun k => k = w.heap.size) (fun k hk => ⟨⟨by omega, by omega, by omega⟩, by omega⟩)
    (ScanI w.heap.size w W0) (fun _ _ _ _ => False)
    (fun pre M A B h hc => ScanI.chg (by omega) h hc (fun k hk => hk)) (fun _ _ _ _ _ h _ => h) ?_ hI0
    (fun x a1 A => ∃ bt, W0.heap.size + 2 ≤ bt ∧ bt < A.heap.size ∧ A.cell? ⟨bt, 0, none⟩ = some (.int .i64 x.kind) ∧ A.cell? ⟨bt, 1, none⟩ = some (.string x.text) ∧ A.cell? ⟨bt, 2, none⟩ = some (.int .i64 x.at_) ∧
      a1 = { tmps := #[.map (some bm), .string s, undef, undef, .pointer (some ⟨w.heap.size, 0, none⟩), .pointer (some ⟨w.heap.size + 1, 0, none⟩), .pointer (some ⟨w.heap.size + 1 + 1, 0, none⟩), .pointer (some ⟨bt, 0, none⟩),
          .func (.func 35) #[] #[.pointer (some ⟨w.heap.size, 0, none⟩), .pointer (some ⟨w.heap.size + 1, 0, none⟩), .pointer (some ⟨w.heap.size + 1 + 1, 0, none⟩)],
          .map (some bm), .string s, .agg #[.map (some bm), .string s], .pointer (some ⟨w.heap.size + 1 + 1 + 1, 0, none⟩), .func (.func 46) #[] #[.pointer (some ⟨w.heap.size + 1 + 1 + 1 + 1, 0, none⟩)],
          .agg #[.int .i64 x.kind, .string x.text, .int .i64 x.at_], undef, undef, undef, undef, undef], defers := [] })
    ?_ ?assign ?body ?done ?stop ?panic
  · rintro pre M A ⟨v, h1, h2, hM, ho, _, _, _, _, _, h8⟩ k hk
    rcases (hM k).1 hk with rfl | h
    · exact lt_of_cell h1
    · exact own_lt ho k h
  · rintro x a1 A B ⟨bt, h1, h2, h3, h4, h5, h6⟩ hc
    exact ⟨bt, h1, by have := hc.size; omega, hc.cell h3 (by show bt ≠ _; omega), hc.cell h4 (by show bt ≠ _; omega), hc.cell h5 (by show bt ≠ _; omega), h6⟩
  case assign =>
    intro l x W hW
    clear hs0
    unfold encT
    gi_wp2
    exact ⟨⟨W.heap.size, hW, by simp, cells_at _ _ _ _ 0 rfl, cells_at _ _ _ _ 1 rfl, cells_at _ _ _ _ 2 rfl, rfl⟩, Chg.alloc _ _ _⟩
  case body =>
    rintro l pre M x a1 sz W hI hMs hlen ⟨bt, hb1, hb2, hx0, hx1, hx2, rfl⟩ hsz hsW
    obtain ⟨v, h1, h2, hM, ho, h3, h4, h5, h6, h7, h8⟩ := hI
    have hne : ∀ k, v.ownBlock = some k → W0.heap.size ≤ k := own_base ho
    have hltk : ∀ k, v.ownBlock = some k → k < W.heap.size := own_lt ho
    have hle : W0.heap.size ≤ W.heap.size := h8
    have HNB : Hid (¬ v.ownBlock = some w.heap.size) := Lib.hid (fun e => by have := hne _ e; omega)
    have HO := Lib.hid ho
    have HM := Lib.hid hM
    have HNE := Lib.hid hne
    have HLT := Lib.hid hltk
    have H7 := Lib.hid h7
    have H8 := Lib.hid h8
    have HS := Lib.hid hs0
    have HMS := Lib.hid hMs
    have hblt : w.heap.size < W.heap.size := by omega
    clear ho hM hne hltk h7 h8 hs0 hMs hk0 hb0 ce cd0 cd1 hI0 hle
    gi_wp2_with (gi_at_builtin; go_loud (refine wpListIn_append_own_at _ rfl _ _ 25 rfl W0.heap.size 30 i0 _ 3 32 Tryz.underlying25 HI.out HZ0.out HZ1.out HZ2.out rfl (by decide) _ _ _ rfl (HO.out.alloc _) ⟨W.heap.size, 0, none⟩ 1 1 (tokCells x) rfl rfl (toks_new W x) (by simp [tokCells, Value.oneCell']) (by have := hlen; simp only [maxLen]; omega) (by omega) (by have := H8.out; simp; omega) ?_; intro v' w1 hown' hgrow _ hat; obtain ⟨g', cap', rfl⟩ := ownsRow_succ hown'; have hcg : Chg (fun k => v.ownBlock = some k) W w1 := (Chg.alloc _ _ _).trans (Chg.grown hgrow (fun k e => .inl e)); have hc1 := hcg.cell h1 HNB.out; have hf1 := Chg.frozen hcg h1 h2 HNB.out; have Hown := Lib.hid hown'; have Hat := Lib.hid hat; clear hown' hgrow hat))
    have hg' : W0.heap.size ≤ g' := own_base Hown.out g' rfl
    have hC2 : Chg (fun k => k = w.heap.size ∨ v.ownBlock = some k) W (w1.setCell ⟨w.heap.size, 0, none⟩ (.slice (some ⟨g', 0, none⟩) (pre.length + 1) cap')) :=
      (hcg.mono (fun k h => .inr h)).trans (Chg.setCell (p := ⟨w.heap.size, 0, none⟩) (.inl rfl) _)
    have hS := HS.out
    have nb1 : ¬ (w.heap.size + 1 = w.heap.size ∨ v.ownBlock = some (w.heap.size + 1)) := fun e => e.elim (by omega) (fun e => by have := HNE.out _ e; omega)
    have nb2 : ¬ (w.heap.size + 2 = w.heap.size ∨ v.ownBlock = some (w.heap.size + 2)) := fun e => e.elim (by omega) (fun e => by have := HNE.out _ e; omega)
    refine ⟨fun k => k = w.heap.size ∨ k = g', ⟨_, World.cell?_setCell_same' _ _ _ (by rw [hc1]; rfl), by rw [World.frozen?_setCell]; exact hf1, fun k => by simp [Value.ownBlock, eq_comm], ?_, hC2.cell h3 nb1, Chg.frozen hC2 h3 h4 nb1, hC2.cell h5 nb2, Chg.frozen hC2 h5 h6 nb2, ?_, ?_⟩, ?_, ?_⟩
    · have hl : (pre ++ [x]).length = pre.length + 1 := by simp
      have hf : (pre ++ [x]).flatMap tokCells = pre.flatMap tokCells ++ tokCells x := by simp
      rw [hl, hf]
      exact own_move Hown.out (fun k hk => Below.heap_setCell w1 _ _ k (by
        have : g' = k := by simpa [Value.ownBlock] using hk
        show k ≠ w.heap.size
        omega))
    · refine H7.out.trans (hC2.below (by omega) ?_)
      rintro k (rfl | hk)
      · exact Nat.le_refl _
      · have := HNE.out _ hk; omega
    · have := hC2.size; have := H8.out; omega
    · refine hC2.mono ?_
      rintro k (rfl | hk)
      · exact .inl ((HM.out _).2 (.inl rfl))
      · exact .inl ((HM.out _).2 (.inr hk))
    · rintro k (rfl | rfl)
      · exact .inl ((HM.out _).2 (.inl rfl))
      · rcases Hat.out with h | h
        · exact .inl ((HM.out _).2 (.inr (h.symm.trans rfl)))
        · refine .inr ?_
          have : k = W.heap.size + 1 := by simpa [Value.ownBlock] using h
          omega
  case done =>
    rintro D xs M W hD hS hI hK
    have HI2 := Lib.hid hI
    obtain ⟨v, h1, h2, hM, ho, h3, h4, h5, h6, h7, h8⟩ := hI
    obtain ⟨A, cp, rfl⟩ := own_slice ho
    have hsa := setCell_self h1
    have hsb := setCell_self h3
    have hsc := setCell_self h5
    have HO := Lib.hid ho
    have HSx := Lib.hid hS
    have H7 := Lib.hid h7
    have HD := Lib.hid hD
    clear ho hS h7 h8 hM hD hI0 hk0 hb0 ce cd0 cd1
    gi_wp2
    have hc2 : Chg (fun k => k = D) W (W.putObj D (.deferred none)) := Chg.putObj (T := fun k => k = D) rfl _
    have hd := HD.out
    have nD : ∀ k, Value.ownBlock (.slice A xs.length cp) = some k → k ≠ D := fun k hk e => by obtain ⟨cells, hcl⟩ := own_typed HO.out k hk; rw [e, hK] at hcl; cases hcl
    refine ⟨by simp, .inl ⟨D, _, rfl, run_takeDeferred hK, ?_⟩⟩
    refine ⟨by simp, .inr ⟨fun h => by simp [Fence.wide] at h, _, _, 35, #[.pointer (some ⟨w.heap.size, 0, none⟩), .pointer (some ⟨w.heap.size + 1, 0, none⟩), .pointer (some ⟨w.heap.size + 1 + 1, 0, none⟩)], rfl, by simp [go_sem], fun g _ => trivial, ?_⟩⟩
    refine (catch_idle _ _ _ _).mono ?_
    rintro e u' w2 ⟨rfl, rfl, rfl⟩
    have ka := hc2.cell h1 (by show w.heap.size ≠ D; omega)
    have kb := hc2.cell h3 (by show w.heap.size + 1 ≠ D; omega)
    have kc := hc2.cell h5 (by show w.heap.size + 2 ≠ D; omega)
    simp only [LeavesInM, LeavesIn, settle]
    refine ⟨.tuple #[.slice A xs.length cp, .int .i64 0, .int .i64 0], by simp [results, Tryz.results21, go_sem, ka, kb, kc], _, xs, 0, 0, rfl, ?_, .inl ⟨HSC.out.symm.trans HSx.out, rfl, rfl⟩, ?_⟩
    · exact own_weaken (own_move HO.out (fun k hk => hc2.block k (own_lt HO.out k hk) (nD k hk))) (by omega)
    · exact H7.out.trans (hc2.below (by have := H7.out.size; omega) (fun k hk => by omega))
  case stop =>
    rintro D c pre M W hD _ h _
    exact h.elim
  case panic =>
    rintro D chain pre M W hD ⟨q, c, hq, rfl⟩ hI hK
    obtain ⟨v, h1, h2, hM, ho, h3, h4, h5, h6, h7, h8⟩ := hI
    have hc2 : Chg (fun k => k = D) W (W.putObj D (.deferred none)) := Chg.putObj (T := fun k => k = D) rfl _
    refine ⟨by simp, .inl ⟨D, _, rfl, run_takeDeferred hK, ?_⟩⟩
    refine ⟨by simp, .inr ⟨fun h => by simp [Fence.wide] at h, _, _, 35, #[.pointer (some ⟨w.heap.size, 0, none⟩), .pointer (some ⟨w.heap.size + 1, 0, none⟩), .pointer (some ⟨w.heap.size + 1 + 1, 0, none⟩)], rfl, by simp [go_sem], fun g _ => trivial, ?_⟩⟩
    refine (catch_panicking w.heap.size _ _ _ q c [] _ (hc2.cell h1 (by show w.heap.size ≠ D; omega)) (hc2.cell h3 (by show w.heap.size + 1 ≠ D; omega)) (hc2.cell h5 (by show w.heap.size + 2 ≠ D; omega))
      (Chg.frozen hc2 h1 h2 (by show w.heap.size ≠ D; omega)) (Chg.frozen hc2 h3 h4 (by show w.heap.size + 1 ≠ D; omega)) (Chg.frozen hc2 h5 h6 (by show w.heap.size + 2 ≠ D; omega))).mono ?_
    rintro e u' w2 ⟨rfl, rfl, hc3, hca, hcb, hcc⟩
    simp only [LeavesInM, LeavesIn, settle]
    refine ⟨.tuple #[.slice none 0 0, .int .i64 q, .int .i64 c], by simp [results, Tryz.results21, go_sem, hca, hcb, hcc], _, [], q, c, rfl, World.ownsRow_nil _ _ _ _, .inr ⟨pre, q, HSC.out.symm.trans hq, rfl, rfl⟩, ?_⟩
    exact h7.trans ((hc2.below (n := w.heap.size) (by have := h7.size; omega) (fun k hk => by omega)).trans (hc3.below (by have := h7.size; have := hc2.size; omega) (fun k hk => by omega)))
end Go.Proofs.YtmkfeanggmjhmaaGreat.S

/- Walk of strings.Replacer's build, for the three pairs of a string's signs. -/
namespace Go.Proofs.YtmkfeanggmjhmaaGreat.Rp
open Go Go.RowKit
set_option linter.unusedSimpArgs false
set_option linter.unusedVariables false

def nilS : Value := .slice none 0 0
/-- the cells of a table of replacements -/
def tab0 : Array Value := Array.replicate 256 nilS
theorem info140 : (Tryz.prog.info? 140).map (fun i => (i.zero, i.size)) = some (some (.agg (tab0.push nilS)), 257) := by kernel_rfl
theorem zero140 (w : World) : (zeroValue 140).run Tryz.prog w = .ok (.agg (tab0.push nilS)) w := (zero_of_info info140).1 w
theorem size140 : (Tryz.prog.info? 140).map (·.size) = some 257 := (zero_of_info info140).2
theorem built140 (a : Option Addr) (n c : Nat) : Tryz.prog.built 140 [(1, .slice a n c)] = some (tab0.push (.slice a n c)) := by kernel_rfl
theorem build140 (a : Option Addr) (n c : Nat) (w : World) : (Instr.build 140 #[(1, .slice a n c)]).run Tryz.prog w = .ok (.agg (tab0.push (.slice a n c))) w := run_build w 140 _ _ (built140 a n c)
theorem infoString : (Tryz.prog.info? 9).map (fun i => (i.zero, i.size, i.bytes)) = some (some (.string ⟨#[]⟩), 1, 16) := by kernel_rfl
theorem make3 (w : World) : (Instr.makeSlice 22 (.int .i64 0) (.int .i64 3)).run Tryz.prog w = .ok (.slice (some ⟨w.heap.size, 0, none⟩) 0 3) (w.alloc (.cells #[.string ⟨#[]⟩, .string ⟨#[]⟩, .string ⟨#[]⟩] 9)) := by
  obtain ⟨i0, hi, hz0, hz1, hz2⟩ := info_parts infoString
  have := run_make (P := Tryz.prog) w 22 9 i0 _ Tryz.underlying22 hi hz0 .i64 .i64 0 3 (by decide) (by decide) (by rw [hz2]; decide) (by decide)
  rw [hz1] at this
  have e : madeCells (Value.string ⟨#[]⟩).cells (Int.toNat 3 * 1) = #[.string ⟨#[]⟩, .string ⟨#[]⟩, .string ⟨#[]⟩] := by simp [madeCells, Value.cells, Array.range_succ, Array.range_zero']
  rw [e] at this
  exact this
theorem eql_nil (t e : TypeId) (hu : Tryz.prog.underlying t = some (.slice e)) (a : Option Addr) (l c : Nat) (w : World) : (binOp .eql t (.slice a l c) (.slice none 0 0)).run Tryz.prog w = .ok (.bool a.isNone) w := by
  simp only [binOp]
  simp [run_equal_slice_nil w _ _ a l c hu]

theorem all_tab (v : Value) (h : v.oneCell' = true) : (tab0.push v).all (·.oneCell') = true := by
  rw [Array.all_eq_true_iff_forall_mem]
  intro x hx
  rcases Array.mem_push.1 hx with h' | rfl
  · unfold tab0 at h'
    rw [(Array.mem_replicate.1 h').2]
    rfl
  · exact h
theorem set_second (w : World) (X : Obj) (c c' : Array Value) (t : TypeId) : ((w.alloc X).alloc (.cells c t)).setRow (w.heap.size + 1) c' = (w.alloc X).alloc (.cells c' t) := by
  have := World.setRow_alloc_new (w.alloc X) c c' t
  rwa [World.size_alloc] at this
/-- what a byte's replacement is, of a table that is half done -/
def Slot (w : World) (B : Nat) (PA : Array Value) (done : List (Nat × Nat)) (c : Nat) : Prop :=
  (∃ d, (c, d) ∈ done ∧ ∃ g cap cur fr, PA[c]? = some (.slice (some ⟨g, 0, none⟩) 2 cap) ∧ B ≤ g ∧ w.heap[g]? = some (.cells cur 5 fr) ∧ cur[0]? = some (.int .u8 92) ∧ cur[1]? = some (.int .u8 d)) ∨
  ((∀ d, (c, d) ∉ done) ∧ PA[c]? = some nilS)
def signs3 (done : List (Nat × Nat)) : List Value := done.map (fun p => .string ⟨#[p.1.toUInt8]⟩)
def Tab (B bb : Nat) (done : List (Nat × Nat)) (w : World) : Prop :=
  ∃ PA v, w.heap[bb]? = some (.cells (PA.push v) 140 (0, 0)) ∧ PA.size = 256 ∧ w.ownsRow B 9 1 v done.length (signs3 done) ∧ ∀ c, c < 256 → Slot w B PA done c
theorem own_type {w : World} {B : Nat} {e : TypeId} {size n : Nat} {v : Value} {xs : List Value} (h : w.ownsRow B e size v n xs) {k : Nat} (hk : v.ownBlock = some k) : ∃ cur, w.heap[k]? = some (.cells cur e (0, 0)) := by
  rcases h.2 with ⟨rfl, _⟩ | ⟨g, cap, cur, rfl, _, hh, _⟩
  · cases hk
  · cases hk; exact ⟨_, hh⟩
theorem own_keep {w w' : World} {base : Nat} {e : TypeId} {size n : Nat} {v : Value} {xs : List Value} (h : w.ownsRow base e size v n xs) (hk : ∀ (k : Nat) (cur : Array Value), w.heap[k]? = some (Obj.cells cur e (0, 0)) → w'.heap[k]? = w.heap[k]?) : w'.ownsRow base e size v n xs := by
  obtain ⟨h1, h2⟩ := h
  refine ⟨h1, ?_⟩
  rcases h2 with h2 | ⟨g, cap, cur, hv, hg, hh, h3⟩
  · exact .inl h2
  · exact .inr ⟨g, cap, cur, hv, hg, by rw [hk g cur hh]; exact hh, h3⟩
theorem bytes2 (W : World) (d : Nat) (hd : d < 256) : (Lib.bytesCells W 5 ⟨#[92, d.toUInt8]⟩)[0]? = some (.int .u8 92) ∧ (Lib.bytesCells W 5 ⟨#[92, d.toUInt8]⟩)[1]? = some (.int .u8 d) := by
  have e : ((⟨#[92, d.toUInt8]⟩ : ByteArray).data.map fun b => Value.int .u8 b.toNat) = #[.int .u8 92, .int .u8 (d : Int)] := by
    have h : d.toUInt8.toNat = d := by rw [Nat.toUInt8_eq, UInt8.toNat_ofNat']; omega
    simp only [List.map_toArray, List.map_cons, List.map_nil, h]
    rfl
  unfold Lib.bytesCells
  rw [e]
  exact ⟨by rw [Array.getElem?_append_left (by simp)]; rfl, by rw [Array.getElem?_append_left (by simp)]; rfl⟩
theorem lt_heap {w : World} {k : Nat} {o : Obj} (h : w.heap[k]? = some o) : k < w.heap.size := (Array.getElem?_eq_some_iff.1 h).1
theorem tab_step {B bb : Nat} {done : List (Nat × Nat)} {w w3 : World} {PA : Array Value} {v v' : Value} {o d : Nat} (h1 : w.heap[bb]? = some (.cells (PA.push v) 140 (0, 0))) (h2 : PA.size = 256)
    (h3 : w.ownsRow B 9 1 v done.length (signs3 done)) (h4 : ∀ c, c < 256 → Slot w B PA done c) (ho : o < 256) (hd : d < 256) (hnew : ∀ d, (o, d) ∉ done) (hB : B ≤ w3.heap.size) (hsz : w.heap.size ≤ w3.heap.size)
    (hown : w3.ownsRow B 9 1 v' (done.length + 1) (signs3 (done ++ [(o, d)]))) (hkeep : ∀ k, k < w.heap.size → v.ownBlock ≠ some k → w3.heap[k]? = w.heap[k]?) :
    Tab B bb (done ++ [(o, d)]) ((Lib.bytesWorld (w3.setCell ⟨bb, 256, none⟩ v') 5 ⟨#[92, d.toUInt8]⟩).setCell ⟨bb, o, none⟩ (.slice (some ⟨(w3.setCell ⟨bb, 256, none⟩ v').heap.size, 0, none⟩) 2 (grownCap (w3.setCell ⟨bb, 256, none⟩ v') 2 0 5))) := by
  have hne : ∀ {k t cur fr}, w.heap[k]? = some (.cells cur t fr) → t ≠ 9 → v.ownBlock ≠ some k := fun hk ht e => by
    obtain ⟨c2, hc2⟩ := own_type h3 e
    rw [hc2] at hk
    cases hk
    exact ht rfl
  have e3 : w3.heap[bb]? = some (.cells (PA.push v) 140 (0, 0)) := (hkeep bb (lt_heap h1) (hne h1 (by decide))).trans h1
  have ps : (PA.push v).setIfInBounds 256 v' = PA.push v' := by
    apply Array.ext_getElem?
    intro k
    rw [Array.getElem?_setIfInBounds, Array.getElem?_push, Array.getElem?_push, Array.size_push, h2]
    by_cases hk : k = 256
    · subst hk; simp
    · rw [if_neg (fun e => hk e.symm)]; simp [hk]
  have w4e : w3.setCell ⟨bb, 256, none⟩ v' = w3.setRow bb (PA.push v') := by rw [setCell_eq_setRow w3 bb 256 _ 140 (0, 0) v' e3, ps]
  rw [w4e]
  have e4 : (w3.setRow bb (PA.push v')).heap[bb]? = some (.cells (PA.push v') 140 (0, 0)) := setRow_heap _ _ _ _ _ _ e3
  have z4 : (w3.setRow bb (PA.push v')).heap.size = w3.heap.size := size_setRow _ _ _
  have hbb : bb < w3.heap.size := lt_heap e3
  generalize hS : (⟨#[92, d.toUInt8]⟩ : ByteArray) = S
  have e5 : (Lib.bytesWorld (w3.setRow bb (PA.push v')) 5 S).heap[bb]? = some (.cells (PA.push v') 140 (0, 0)) := by rw [Lib.bytesWorld_at_old _ _ _ _ (by rw [z4]; exact hbb)]; exact e4
  have ps2 : ∀ s, (PA.push v').setIfInBounds o s = (PA.setIfInBounds o s).push v' := fun s => by
    apply Array.ext_getElem?
    intro k
    rw [Array.getElem?_setIfInBounds, Array.getElem?_push, Array.getElem?_push, Array.size_push, Array.size_setIfInBounds, Array.getElem?_setIfInBounds, h2]
    by_cases hk : k = 256
    · subst hk; rw [if_neg (by omega)]; simp
    · by_cases ho' : o = k
      · subst ho'; simp [hk, ho]; omega
      · simp [hk, ho']
  generalize hs : Value.slice (some ⟨(w3.setRow bb (PA.push v')).heap.size, 0, none⟩) 2 (grownCap (w3.setRow bb (PA.push v')) 2 0 5) = s
  rw [setCell_eq_setRow _ bb o _ 140 (0, 0) s e5, ps2]
  have old5 : ∀ k, k < w3.heap.size → k ≠ bb → ((Lib.bytesWorld (w3.setRow bb (PA.push v')) 5 S).setRow bb ((PA.setIfInBounds o s).push v')).heap[k]? = w3.heap[k]? := fun k hk hkb => by
    rw [setRow_other _ _ _ _ hkb, Lib.bytesWorld_at_old _ _ _ _ (by rw [z4]; exact hk), setRow_other _ _ _ _ hkb]
  refine ⟨PA.setIfInBounds o s, v', setRow_heap _ _ _ _ _ _ e5, by rw [Array.size_setIfInBounds]; exact h2, ?_, ?_⟩
  · rw [List.length_append]
    refine own_keep hown (fun k cur hk => old5 k (lt_heap hk) (fun e => ?_))
    subst e
    rw [e3] at hk
    cases hk
  · intro c hc
    by_cases hco : c = o
    · subst hco
      refine .inl ⟨d, by simp, w3.heap.size, grownCap (w3.setRow bb (PA.push v')) 2 0 5, Lib.bytesCells (w3.setRow bb (PA.push v')) 5 S, ((Lib.bytesCells (w3.setRow bb (PA.push v')) 5 S).size, (Lib.bytesCells (w3.setRow bb (PA.push v')) 5 S).size + 1), ?_, hB, ?_, ?_, ?_⟩
      · rw [Array.getElem?_setIfInBounds, if_pos rfl, if_pos (by omega), ← hs, z4]
      · rw [setRow_other _ _ _ _ (by omega)]
        have := Lib.bytesWorld_at_new (w3.setRow bb (PA.push v')) 5 S
        rw [z4] at this
        exact this
      · subst hS; exact (bytes2 _ d hd).1
      · subst hS; exact (bytes2 _ d hd).2
    · have hg : (PA.setIfInBounds o s)[c]? = PA[c]? := by rw [Array.getElem?_setIfInBounds, if_neg (fun e => hco e.symm)]
      rcases h4 c hc with ⟨d', hm, g, cap, cur, fr, k1, k2, k3, k4, k5⟩ | ⟨k1, k2⟩
      · refine .inl ⟨d', by simp [hm], g, cap, cur, fr, by rw [hg]; exact k1, k2, ?_, k4, k5⟩
        have gb : g ≠ bb := fun e => by subst e; rw [h1] at k3; cases k3
        rw [old5 g (by have := lt_heap k3; omega) gb, hkeep g (lt_heap k3) (hne k3 (by decide))]
        exact k3
      · refine .inr ⟨fun d' hm => ?_, by rw [hg]; exact k2⟩
        rcases List.mem_append.1 hm with hm | hm
        · exact k1 d' hm
        · simp at hm; exact hco hm.1

theorem tab_zero (w : World) (X : Array Value) : Tab w.heap.size (w.heap.size + 1) [] ((w.alloc (.cells #[.string ⟨#[]⟩, .string ⟨#[]⟩, .string ⟨#[]⟩] 9)).alloc (.cells (tab0.push (.slice (some ⟨w.heap.size, 0, none⟩) 0 3)) 140)) := by
  refine ⟨tab0, _, heap_alloc2_new _ _ _, by simp [tab0], ⟨rfl, .inr ⟨w.heap.size, 3, _, rfl, Nat.le_refl _, heap_alloc2_old _ _ _, Nat.zero_le _, by decide, rfl, rfl⟩⟩, fun c hc => .inr ⟨fun d h => by simp at h, ?_⟩⟩
  unfold tab0
  rw [Array.getElem?_replicate, if_pos hc]
theorem bytes_cell (W : World) (s : ByteArray) (a : Addr) (h : a.block < W.heap.size) : (Lib.bytesWorld W 5 s).cell? a = W.cell? a := Lib.bytesWorld_old W 5 s a h
theorem bytes_frozen (W : World) (s : ByteArray) (a : Addr) (h : a.block < W.heap.size) : (Lib.bytesWorld W 5 s).frozen? a = W.frozen? a := by
  unfold World.frozen?
  rw [Lib.bytesWorld_at_old W 5 s a.block h]
theorem bytes_below {B : Nat} {W : World} (s : ByteArray) (hB : B ≤ W.heap.size) : Below B W (Lib.bytesWorld W 5 s) :=
  ⟨rfl, rfl, rfl, by rw [Lib.bytesWorld_size]; omega, fun k hk => Lib.bytesWorld_at_old W 5 s k (by omega)⟩
theorem conv_one (w : World) (x : UInt8) : (convert 115 9 (.slice (some ⟨w.heap.size, 0, none⟩) 1 1)).run Tryz.prog (w.alloc (.cells #[.int .u8 (x.toNat : Int)] 5)) = .ok (.string ⟨#[x]⟩) (w.alloc (.cells #[.int .u8 (x.toNat : Int)] 5)) :=
  run_convert_bytes_back (w.alloc (.cells #[.int .u8 (x.toNat : Int)] 5)) 115 9 5 ⟨w.heap.size, 0, none⟩ 1 [x] Tryz.underlying115 Tryz.underlying5 Tryz.underlying9 (by intro j hj; match j, hj with | 0, hj => simp [Addr.add])
theorem conv_bytes (s : ByteArray) (W : World) : (convert 9 115 (.string s)).run Tryz.prog W = .ok (.slice (some ⟨W.heap.size, 0, none⟩) s.size (grownCap W s.size 0 5)) (Lib.bytesWorld W 5 s) :=
  Lib.run_convert_string_bytes W 9 115 5 s Tryz.underlying9 Tryz.underlying115 Tryz.underlying5

set_option maxRecDepth 100000 in
set_option maxHeartbeats 4000000 in
theorem build_calls (b o c : Nat) (W : World) (h4 : W.cell? ⟨b, 4, none⟩ = some (.slice (some ⟨o, 0, none⟩) 6 c))
    (s0 : W.cell? ⟨o, 0, none⟩ = some (.string ⟨#[34]⟩)) (s1 : W.cell? ⟨o, 1, none⟩ = some (.string ⟨#[92, 34]⟩)) (s2 : W.cell? ⟨o, 2, none⟩ = some (.string ⟨#[92]⟩))
    (s3 : W.cell? ⟨o, 3, none⟩ = some (.string ⟨#[92, 92]⟩)) (s4 : W.cell? ⟨o, 4, none⟩ = some (.string ⟨#[10]⟩)) (s5 : W.cell? ⟨o, 5, none⟩ = some (.string ⟨#[92, 110]⟩)) :
    Calls Tryz.prog 85 #[.pointer (some ⟨b, 0, none⟩)] W fun e w' => e = .returned (.iface 141 (.pointer (some ⟨W.heap.size + 1, 0, none⟩))) ∧ Below W.heap.size W w' ∧ Tab W.heap.size (W.heap.size + 1) [(10, 110), (92, 92), (34, 34)] w' := by
  have hz := zero140
  go_enter Tryz.func85, Tryz.ntmps85
  go_wp2
  go_loopg [4, 5] 4 (fun gg v4 v5 wr => wr = W ∧ ((v4 = .bool true ∧ v5 = .int .i64 0 ∧ 4 ≤ gg) ∨ (v4 = .bool false ∧ v5 = .int .i64 2 ∧ 3 ≤ gg) ∨ (v4 = .bool false ∧ v5 = .int .i64 4 ∧ 2 ≤ gg) ∨ (v4 = .bool false ∧ v5 = .int .i64 6)))
  case atStart => exact ⟨rfl, .inl ⟨rfl, rfl, Nat.le_refl _⟩⟩
  case round =>
    obtain ⟨hw, hrel⟩ := hrel
    have hw := hw.symm
    subst hw
    rcases hrel with ⟨rfl, rfl, hg⟩ | ⟨rfl, rfl, hg⟩ | ⟨rfl, rfl, hg⟩ | ⟨rfl, rfl⟩
    · go_wp2
      go_roundg 3
      case measure => omega
      case rel => exact ⟨rfl, .inr (.inl ⟨rfl, rfl, Nat.le_refl _⟩)⟩
    · go_wp2
      go_roundg 2
      case measure => omega
      case rel => exact ⟨rfl, .inr (.inr (.inl ⟨rfl, rfl, Nat.le_refl _⟩))⟩
    · go_wp2
      go_roundg 1
      case measure => omega
      case rel => exact ⟨rfl, .inr (.inr (.inr ⟨rfl, rfl⟩))⟩
    · have hmk := make3
      have hbd := build140
      have hone : ∀ a n c, (tab0.push (.slice a n c)).all (·.oneCell') = true := fun a n c => all_tab _ rfl
      have Hone := Lib.hid hone
      clear hone
      have hbo : b < W.heap.size := K.lt_of_cell h4
      have hoo : o < W.heap.size := K.lt_of_cell s0
      obtain ⟨i0, hi, hz0, hz1, hz2⟩ := info_parts infoString
      go_wp2_with (refine wpList_store_row rfl 140 _ _ rfl (W.heap.size + 1) _ rfl rfl 140 _ (heap_alloc2_new _ _ _) size140 (by kernel_rfl) (Hone.out _ _ _) ?_; rw [set_second])
      have Htz := Lib.hid (tab_zero W #[])
      go_loopg [12] 4 (fun gg v wx => Hid (Below W.heap.size W wx) ∧ W.heap.size + 1 < wx.heap.size ∧ ((v = .int .i64 4 ∧ 4 ≤ gg ∧ Hid (Tab W.heap.size (W.heap.size + 1) [] wx)) ∨ (v = .int .i64 2 ∧ 3 ≤ gg ∧ Hid (Tab W.heap.size (W.heap.size + 1) [(10, 110)] wx)) ∨
        (v = .int .i64 0 ∧ 2 ≤ gg ∧ Hid (Tab W.heap.size (W.heap.size + 1) [(10, 110), (92, 92)] wx)) ∨ (v = .int .i64 (-2) ∧ Hid (Tab W.heap.size (W.heap.size + 1) [(10, 110), (92, 92), (34, 34)] wx))))
      case atStart => exact ⟨Lib.hid (((Below.refl _ W).alloc (Nat.le_refl _) _).alloc (by simp) _), by simp, .inl ⟨rfl, Nat.le_refl _, Htz⟩⟩
      case round =>
        clear Htz Hone hbd hmk hz
        obtain ⟨HB, hsz, hrel⟩ := hrel
        have s0' := (HB.out.cell (p := ⟨o, 0, none⟩) hoo).trans s0
        have s1' := (HB.out.cell (p := ⟨o, 1, none⟩) hoo).trans s1
        have s2' := (HB.out.cell (p := ⟨o, 2, none⟩) hoo).trans s2
        have s3' := (HB.out.cell (p := ⟨o, 3, none⟩) hoo).trans s3
        have s4' := (HB.out.cell (p := ⟨o, 4, none⟩) hoo).trans s4
        have s5' := (HB.out.cell (p := ⟨o, 5, none⟩) hoo).trans s5
        clear s0 s1 s2 s3 s4 s5 h4
        rcases hrel with ⟨rfl, hg, HT⟩ | ⟨rfl, hg, HT⟩ | ⟨rfl, hg, HT⟩ | ⟨rfl, HT⟩
        · obtain ⟨PA, v, q1, q2, q3, q4⟩ := HT.out
          have q5 : PA[10]? = some nilS := by
            rcases q4 10 (by decide) with ⟨d, hm, _⟩ | ⟨_, h⟩
            · simp at hm
            · exact h
          have k1 : wr.cell? ⟨W.heap.size + 1, 10, none⟩ = some (.slice none 0 0) := by rw [Lib.cell_of_heap q1, Array.getElem?_push, if_neg (by omega)]; exact q5
          have k2 : wr.cell? ⟨W.heap.size + 1, 256, none⟩ = some v := by rw [Lib.cell_of_heap q1, Array.getElem?_push, if_pos q2.symm]
          obtain ⟨A, c0, rfl⟩ := S.own_slice q3
          have b10 : ((⟨#[10]⟩ : ByteArray)[0]'(by decide)).toNat = 10 := rfl
          have hen := fun (a : Option Addr) (l c : Nat) (w : World) => eql_nil 115 5 Tryz.underlying115 a l c w
          have hcb := conv_bytes
          have hco : ∀ w : World, (convert 115 9 (.slice (some ⟨w.heap.size, 0, none⟩) 1 1)).run Tryz.prog (w.alloc (.cells #[.int .u8 10] 5)) = .ok (.string ⟨#[10]⟩) (w.alloc (.cells #[.int .u8 10] 5)) := fun w => conv_one w 10
          have k1' := q5
          clear HT
          have Q1 := Lib.hid q1
          have Q2 := Lib.hid q2
          have Q3 := Lib.hid q3
          have Q4 := Lib.hid q4
          clear q1 q2 q3 q4 q5
          go_wp2_with (at_builtin; refine wpList_append_own _ rfl _ _ 22 rfl W.heap.size 9 i0 _ 1 16 Tryz.underlying22 hi hz0 hz1 hz2 rfl (by decide) _ _ _ rfl ((Q3.out.alloc _).alloc _) ⟨wr.heap.size + 1, 0, none⟩ 1 1 [.string ⟨#[10]⟩] rfl rfl ?c1 ?c2 ?c3 ?c4 ?c5 ?_)
          case c1 =>
            intro j u hj
            match j, hj with
            | 0, hj => simp at hj; subst hj; simp [Addr.add]
          case c2 => intro u hu; simp at hu; subst hu; rfl
          case c3 => decide
          case c4 => decide
          case c5 => simp; omega
          intro v' w3 hown' hgrow _
          obtain ⟨A', c1, rfl⟩ := S.own_slice hown'
          have hz3 : wr.heap.size + 2 ≤ w3.heap.size := by have := hgrow.size; simpa using this
          have hkeep : ∀ k, k < wr.heap.size → some k ≠ (Value.slice A 0 c0).ownBlock → w3.heap[k]? = wr.heap[k]? := fun k hk hn => by
            rw [hgrow.block k (by simp; omega) hn, Lib.alloc_old _ _ _ (by simp; omega), Lib.alloc_old _ _ _ hk]
          have hT := tab_step (o := 10) (d := 110) Q1.out Q2.out Q3.out Q4.out (by decide) (by decide) (by intro d hm; simp at hm) (by omega) (by omega) hown' (fun k h1 h2 => hkeep k h1 (fun e => h2 e.symm))
          have hbb : w3.heap[W.heap.size + 1]? = some (.cells (PA.push (.slice A 0 c0)) 140 (0, 0)) := by
            rw [hkeep _ (lt_heap Q1.out) (fun e => by obtain ⟨c2, hc2⟩ := own_type Q3.out e.symm; rw [Q1.out] at hc2; cases hc2)]
            exact Q1.out
          have m1 : w3.cell? ⟨W.heap.size + 1, 256, none⟩ = some (.slice A 0 c0) := by rw [Lib.cell_of_heap hbb, Array.getElem?_push, if_pos Q2.out.symm]
          have m2 : w3.frozen? ⟨W.heap.size + 1, 256, none⟩ = false := Lib.frozen_of_heap hbb 256
          have hblt := lt_heap hbb
          have m3 : (Lib.bytesWorld (w3.setCell ⟨W.heap.size + 1, 256, none⟩ (.slice A' 1 c1)) 5 ⟨#[92, 110]⟩).cell? ⟨W.heap.size + 1, 10, none⟩ = some (.slice none 0 0) := by
            rw [bytes_cell _ _ _ (by simpa using hblt), World.cell?_setCell_other _ _ _ _ (by simp), Lib.cell_of_heap hbb, Array.getElem?_push, if_neg (by rw [Q2.out]; decide)]
            exact k1'
          have m4 : (Lib.bytesWorld (w3.setCell ⟨W.heap.size + 1, 256, none⟩ (.slice A' 1 c1)) 5 ⟨#[92, 110]⟩).frozen? ⟨W.heap.size + 1, 10, none⟩ = false := by
            rw [bytes_frozen _ _ _ (by simpa using hblt)]
            simpa using Lib.frozen_of_heap hbb 10
          have hB3 : Below W.heap.size W w3 := ((HB.out.alloc (by omega) _).alloc (by simp; omega) _).grown hgrow (by simp; omega) (fun k hk => (Q3.out.lt k hk).1)
          have hzz : (w3.setCell ⟨W.heap.size + 1, 256, none⟩ (.slice A' 1 c1)).heap.size = w3.heap.size := by simp
          rw [hzz] at hT
          have hBe : Below W.heap.size W ((Lib.bytesWorld (w3.setCell ⟨W.heap.size + 1, 256, none⟩ (.slice A' 1 c1)) 5 ⟨#[92, 110]⟩).setCell ⟨W.heap.size + 1, 10, none⟩ (.slice (some ⟨w3.heap.size, 0, none⟩) 2 (grownCap (w3.setCell ⟨W.heap.size + 1, 256, none⟩ (.slice A' 1 c1)) 2 0 5))) :=
            ((hB3.setCell (p := ⟨W.heap.size + 1, 256, none⟩) (by simp) _).trans (bytes_below _ (by rw [hzz]; omega))).setCell (p := ⟨W.heap.size + 1, 10, none⟩) (by simp) _
          have hze : W.heap.size + 1 < ((Lib.bytesWorld (w3.setCell ⟨W.heap.size + 1, 256, none⟩ (.slice A' 1 c1)) 5 ⟨#[92, 110]⟩).setCell ⟨W.heap.size + 1, 10, none⟩ (.slice (some ⟨w3.heap.size, 0, none⟩) 2 (grownCap (w3.setCell ⟨W.heap.size + 1, 256, none⟩ (.slice A' 1 c1)) 2 0 5))).heap.size := by
            rw [World.size_setCell, Lib.bytesWorld_size, hzz]; omega
          have HBe := Lib.hid hBe
          have Hze := Lib.hid hze
          clear hB3 hBe hze hzz
          have HT' := Lib.hid hT
          have Hgrow := Lib.hid hgrow
          have Hkeep := Lib.hid hkeep
          have Hown' := Lib.hid hown'
          clear hT hgrow hkeep hown' hbb
          go_wp2
          go_roundg 3
          case measure => omega
          case rel => exact ⟨HBe, Hze.out, .inr (.inl ⟨rfl, Nat.le_refl _, HT'⟩)⟩
        · obtain ⟨PA, v, q1, q2, q3, q4⟩ := HT.out
          have q5 : PA[92]? = some nilS := by
            rcases q4 92 (by decide) with ⟨d, hm, _⟩ | ⟨_, h⟩
            · simp at hm
            · exact h
          have k1 : wr.cell? ⟨W.heap.size + 1, 92, none⟩ = some (.slice none 0 0) := by rw [Lib.cell_of_heap q1, Array.getElem?_push, if_neg (by omega)]; exact q5
          have k2 : wr.cell? ⟨W.heap.size + 1, 256, none⟩ = some v := by rw [Lib.cell_of_heap q1, Array.getElem?_push, if_pos q2.symm]
          obtain ⟨A, c0, rfl⟩ := S.own_slice q3
          have b10 : ((⟨#[92]⟩ : ByteArray)[0]'(by decide)).toNat = 92 := rfl
          have hen := fun (a : Option Addr) (l c : Nat) (w : World) => eql_nil 115 5 Tryz.underlying115 a l c w
          have hcb := conv_bytes
          have hco : ∀ w : World, (convert 115 9 (.slice (some ⟨w.heap.size, 0, none⟩) 1 1)).run Tryz.prog (w.alloc (.cells #[.int .u8 92] 5)) = .ok (.string ⟨#[92]⟩) (w.alloc (.cells #[.int .u8 92] 5)) := fun w => conv_one w 92
          have k1' := q5
          clear HT
          have Q1 := Lib.hid q1
          have Q2 := Lib.hid q2
          have Q3 := Lib.hid q3
          have Q4 := Lib.hid q4
          clear q1 q2 q3 q4 q5
          go_wp2_with (at_builtin; refine wpList_append_own _ rfl _ _ 22 rfl W.heap.size 9 i0 _ 1 16 Tryz.underlying22 hi hz0 hz1 hz2 rfl (by decide) _ _ _ rfl ((Q3.out.alloc _).alloc _) ⟨wr.heap.size + 1, 0, none⟩ 1 1 [.string ⟨#[92]⟩] rfl rfl ?c1 ?c2 ?c3 ?c4 ?c5 ?_)
          case c1 =>
            intro j u hj
            match j, hj with
            | 0, hj => simp at hj; subst hj; simp [Addr.add]
          case c2 => intro u hu; simp at hu; subst hu; rfl
          case c3 => decide
          case c4 => decide
          case c5 => simp; omega
          intro v' w3 hown' hgrow _
          obtain ⟨A', c1, rfl⟩ := S.own_slice hown'
          have hz3 : wr.heap.size + 2 ≤ w3.heap.size := by have := hgrow.size; simpa using this
          have hkeep : ∀ k, k < wr.heap.size → some k ≠ (Value.slice A 1 c0).ownBlock → w3.heap[k]? = wr.heap[k]? := fun k hk hn => by
            rw [hgrow.block k (by simp; omega) hn, Lib.alloc_old _ _ _ (by simp; omega), Lib.alloc_old _ _ _ hk]
          have hT := tab_step (o := 92) (d := 92) Q1.out Q2.out Q3.out Q4.out (by decide) (by decide) (by intro d hm; simp at hm) (by omega) (by omega) hown' (fun k h1 h2 => hkeep k h1 (fun e => h2 e.symm))
          have hbb : w3.heap[W.heap.size + 1]? = some (.cells (PA.push (.slice A 1 c0)) 140 (0, 0)) := by
            rw [hkeep _ (lt_heap Q1.out) (fun e => by obtain ⟨c2, hc2⟩ := own_type Q3.out e.symm; rw [Q1.out] at hc2; cases hc2)]
            exact Q1.out
          have m1 : w3.cell? ⟨W.heap.size + 1, 256, none⟩ = some (.slice A 1 c0) := by rw [Lib.cell_of_heap hbb, Array.getElem?_push, if_pos Q2.out.symm]
          have m2 : w3.frozen? ⟨W.heap.size + 1, 256, none⟩ = false := Lib.frozen_of_heap hbb 256
          have hblt := lt_heap hbb
          have m3 : (Lib.bytesWorld (w3.setCell ⟨W.heap.size + 1, 256, none⟩ (.slice A' 2 c1)) 5 ⟨#[92, 92]⟩).cell? ⟨W.heap.size + 1, 92, none⟩ = some (.slice none 0 0) := by
            rw [bytes_cell _ _ _ (by simpa using hblt), World.cell?_setCell_other _ _ _ _ (by simp), Lib.cell_of_heap hbb, Array.getElem?_push, if_neg (by rw [Q2.out]; decide)]
            exact k1'
          have m4 : (Lib.bytesWorld (w3.setCell ⟨W.heap.size + 1, 256, none⟩ (.slice A' 2 c1)) 5 ⟨#[92, 92]⟩).frozen? ⟨W.heap.size + 1, 92, none⟩ = false := by
            rw [bytes_frozen _ _ _ (by simpa using hblt)]
            simpa using Lib.frozen_of_heap hbb 92
          have hB3 : Below W.heap.size W w3 := ((HB.out.alloc (by omega) _).alloc (by simp; omega) _).grown hgrow (by simp; omega) (fun k hk => (Q3.out.lt k hk).1)
          have hzz : (w3.setCell ⟨W.heap.size + 1, 256, none⟩ (.slice A' 2 c1)).heap.size = w3.heap.size := by simp
          rw [hzz] at hT
          have hBe : Below W.heap.size W ((Lib.bytesWorld (w3.setCell ⟨W.heap.size + 1, 256, none⟩ (.slice A' 2 c1)) 5 ⟨#[92, 92]⟩).setCell ⟨W.heap.size + 1, 92, none⟩ (.slice (some ⟨w3.heap.size, 0, none⟩) 2 (grownCap (w3.setCell ⟨W.heap.size + 1, 256, none⟩ (.slice A' 2 c1)) 2 0 5))) :=
            ((hB3.setCell (p := ⟨W.heap.size + 1, 256, none⟩) (by simp) _).trans (bytes_below _ (by rw [hzz]; omega))).setCell (p := ⟨W.heap.size + 1, 92, none⟩) (by simp) _
          have hze : W.heap.size + 1 < ((Lib.bytesWorld (w3.setCell ⟨W.heap.size + 1, 256, none⟩ (.slice A' 2 c1)) 5 ⟨#[92, 92]⟩).setCell ⟨W.heap.size + 1, 92, none⟩ (.slice (some ⟨w3.heap.size, 0, none⟩) 2 (grownCap (w3.setCell ⟨W.heap.size + 1, 256, none⟩ (.slice A' 2 c1)) 2 0 5))).heap.size := by
            rw [World.size_setCell, Lib.bytesWorld_size, hzz]; omega
          have HBe := Lib.hid hBe
          have Hze := Lib.hid hze
          clear hB3 hBe hze hzz
          have HT' := Lib.hid hT
          have Hgrow := Lib.hid hgrow
          have Hkeep := Lib.hid hkeep
          have Hown' := Lib.hid hown'
          clear hT hgrow hkeep hown' hbb
          go_wp2
          go_roundg 2
          case measure => omega
          case rel => exact ⟨HBe, Hze.out, .inr (.inr (.inl ⟨rfl, Nat.le_refl _, HT'⟩))⟩
        · obtain ⟨PA, v, q1, q2, q3, q4⟩ := HT.out
          have q5 : PA[34]? = some nilS := by
            rcases q4 34 (by decide) with ⟨d, hm, _⟩ | ⟨_, h⟩
            · simp at hm
            · exact h
          have k1 : wr.cell? ⟨W.heap.size + 1, 34, none⟩ = some (.slice none 0 0) := by rw [Lib.cell_of_heap q1, Array.getElem?_push, if_neg (by omega)]; exact q5
          have k2 : wr.cell? ⟨W.heap.size + 1, 256, none⟩ = some v := by rw [Lib.cell_of_heap q1, Array.getElem?_push, if_pos q2.symm]
          obtain ⟨A, c0, rfl⟩ := S.own_slice q3
          have b10 : ((⟨#[34]⟩ : ByteArray)[0]'(by decide)).toNat = 34 := rfl
          have hen := fun (a : Option Addr) (l c : Nat) (w : World) => eql_nil 115 5 Tryz.underlying115 a l c w
          have hcb := conv_bytes
          have hco : ∀ w : World, (convert 115 9 (.slice (some ⟨w.heap.size, 0, none⟩) 1 1)).run Tryz.prog (w.alloc (.cells #[.int .u8 34] 5)) = .ok (.string ⟨#[34]⟩) (w.alloc (.cells #[.int .u8 34] 5)) := fun w => conv_one w 34
          have k1' := q5
          clear HT
          have Q1 := Lib.hid q1
          have Q2 := Lib.hid q2
          have Q3 := Lib.hid q3
          have Q4 := Lib.hid q4
          clear q1 q2 q3 q4 q5
          go_wp2_with (at_builtin; refine wpList_append_own _ rfl _ _ 22 rfl W.heap.size 9 i0 _ 1 16 Tryz.underlying22 hi hz0 hz1 hz2 rfl (by decide) _ _ _ rfl ((Q3.out.alloc _).alloc _) ⟨wr.heap.size + 1, 0, none⟩ 1 1 [.string ⟨#[34]⟩] rfl rfl ?c1 ?c2 ?c3 ?c4 ?c5 ?_)
          case c1 =>
            intro j u hj
            match j, hj with
            | 0, hj => simp at hj; subst hj; simp [Addr.add]
          case c2 => intro u hu; simp at hu; subst hu; rfl
          case c3 => decide
          case c4 => decide
          case c5 => simp; omega
          intro v' w3 hown' hgrow _
          obtain ⟨A', c1, rfl⟩ := S.own_slice hown'
          have hz3 : wr.heap.size + 2 ≤ w3.heap.size := by have := hgrow.size; simpa using this
          have hkeep : ∀ k, k < wr.heap.size → some k ≠ (Value.slice A 2 c0).ownBlock → w3.heap[k]? = wr.heap[k]? := fun k hk hn => by
            rw [hgrow.block k (by simp; omega) hn, Lib.alloc_old _ _ _ (by simp; omega), Lib.alloc_old _ _ _ hk]
          have hT := tab_step (o := 34) (d := 34) Q1.out Q2.out Q3.out Q4.out (by decide) (by decide) (by intro d hm; simp at hm) (by omega) (by omega) hown' (fun k h1 h2 => hkeep k h1 (fun e => h2 e.symm))
          have hbb : w3.heap[W.heap.size + 1]? = some (.cells (PA.push (.slice A 2 c0)) 140 (0, 0)) := by
            rw [hkeep _ (lt_heap Q1.out) (fun e => by obtain ⟨c2, hc2⟩ := own_type Q3.out e.symm; rw [Q1.out] at hc2; cases hc2)]
            exact Q1.out
          have m1 : w3.cell? ⟨W.heap.size + 1, 256, none⟩ = some (.slice A 2 c0) := by rw [Lib.cell_of_heap hbb, Array.getElem?_push, if_pos Q2.out.symm]
          have m2 : w3.frozen? ⟨W.heap.size + 1, 256, none⟩ = false := Lib.frozen_of_heap hbb 256
          have hblt := lt_heap hbb
          have m3 : (Lib.bytesWorld (w3.setCell ⟨W.heap.size + 1, 256, none⟩ (.slice A' 3 c1)) 5 ⟨#[92, 34]⟩).cell? ⟨W.heap.size + 1, 34, none⟩ = some (.slice none 0 0) := by
            rw [bytes_cell _ _ _ (by simpa using hblt), World.cell?_setCell_other _ _ _ _ (by simp), Lib.cell_of_heap hbb, Array.getElem?_push, if_neg (by rw [Q2.out]; decide)]
            exact k1'
          have m4 : (Lib.bytesWorld (w3.setCell ⟨W.heap.size + 1, 256, none⟩ (.slice A' 3 c1)) 5 ⟨#[92, 34]⟩).frozen? ⟨W.heap.size + 1, 34, none⟩ = false := by
            rw [bytes_frozen _ _ _ (by simpa using hblt)]
            simpa using Lib.frozen_of_heap hbb 34
          have hB3 : Below W.heap.size W w3 := ((HB.out.alloc (by omega) _).alloc (by simp; omega) _).grown hgrow (by simp; omega) (fun k hk => (Q3.out.lt k hk).1)
          have hzz : (w3.setCell ⟨W.heap.size + 1, 256, none⟩ (.slice A' 3 c1)).heap.size = w3.heap.size := by simp
          rw [hzz] at hT
          have hBe : Below W.heap.size W ((Lib.bytesWorld (w3.setCell ⟨W.heap.size + 1, 256, none⟩ (.slice A' 3 c1)) 5 ⟨#[92, 34]⟩).setCell ⟨W.heap.size + 1, 34, none⟩ (.slice (some ⟨w3.heap.size, 0, none⟩) 2 (grownCap (w3.setCell ⟨W.heap.size + 1, 256, none⟩ (.slice A' 3 c1)) 2 0 5))) :=
            ((hB3.setCell (p := ⟨W.heap.size + 1, 256, none⟩) (by simp) _).trans (bytes_below _ (by rw [hzz]; omega))).setCell (p := ⟨W.heap.size + 1, 34, none⟩) (by simp) _
          have hze : W.heap.size + 1 < ((Lib.bytesWorld (w3.setCell ⟨W.heap.size + 1, 256, none⟩ (.slice A' 3 c1)) 5 ⟨#[92, 34]⟩).setCell ⟨W.heap.size + 1, 34, none⟩ (.slice (some ⟨w3.heap.size, 0, none⟩) 2 (grownCap (w3.setCell ⟨W.heap.size + 1, 256, none⟩ (.slice A' 3 c1)) 2 0 5))).heap.size := by
            rw [World.size_setCell, Lib.bytesWorld_size, hzz]; omega
          have HBe := Lib.hid hBe
          have Hze := Lib.hid hze
          clear hB3 hBe hze hzz
          have HT' := Lib.hid hT
          have Hgrow := Lib.hid hgrow
          have Hkeep := Lib.hid hkeep
          have Hown' := Lib.hid hown'
          clear hT hgrow hkeep hown' hbb
          go_wp2
          go_roundg 1
          case measure => omega
          case rel => exact ⟨HBe, Hze.out, .inr (.inr (.inr ⟨rfl, HT'⟩))⟩
        · go_wp2
          go_ret
          exact ⟨rfl, HB.out, HT.out⟩
end Go.Proofs.YtmkfeanggmjhmaaGreat.Rp
