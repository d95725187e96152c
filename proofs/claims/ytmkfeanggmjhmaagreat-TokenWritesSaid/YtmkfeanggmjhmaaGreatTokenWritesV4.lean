/- Texts of this claim, one behind the other: Rp3, Rp4, Rp5, S11, S12, Q1, Q2, Q3. -/
import Derived.Test.YtmkfeanggmjhmaaGreatTokenWritesV3
import Derived.Test.YtmkfeanggmjhmaaGreatShelf
import Derived.Laws.IdiomCopy
import Derived.RegionTactic
import Derived.RegionCalls
import Derived.WalkSmall
import Derived.Deep.RegionWith
/- What strings.Replacer makes of a text: a string's signs escaped.  Pure; and what a table of replacements holds. -/
namespace Go.Proofs.YtmkfeanggmjhmaaGreat.Rp
open Go Go.RowKit
set_option linter.unusedSimpArgs false
set_option linter.unusedVariables false

def spec (c : UInt8) : Option UInt8 := if c = 10 then some 110 else if c = 92 then some 92 else if c = 34 then some 34 else none
def esc (c : UInt8) : List UInt8 := match spec c with
  | some d => [92, d]
  | none => [c]
/-- a text in which a string's signs are escaped -/
def escL (s : List UInt8) : List UInt8 := s.flatMap esc
def cnt (s : List UInt8) : Nat := s.countP (fun c => (spec c).isSome)
theorem escL_len (s : List UInt8) : (escL s).length = s.length + cnt s := by
  induction s with
  | nil => rfl
  | cons c r ih =>
    unfold escL cnt at *
    rw [List.flatMap_cons, List.length_append, ih, List.countP_cons, List.length_cons]
    unfold esc
    cases spec c <;> simp <;> omega
theorem escL_same (s : List UInt8) (h : cnt s = 0) : escL s = s := by
  induction s with
  | nil => rfl
  | cons c r ih =>
    unfold cnt at h
    rw [List.countP_cons] at h
    have h1 : spec c = none := by
      cases hc : spec c with
      | none => rfl
      | some d => rw [hc] at h; simp at h
    unfold escL
    rw [List.flatMap_cons]
    have := ih (by unfold cnt; omega)
    unfold escL at this
    rw [this]
    unfold esc
    rw [h1]
    rfl
theorem cnt_split (s : List UInt8) : cnt s = s.count 10 + s.count 92 + s.count 34 := by
  induction s with
  | nil => rfl
  | cons c r ih =>
    unfold cnt at *
    rw [List.countP_cons, ih, List.count_cons, List.count_cons, List.count_cons]
    unfold spec
    by_cases h1 : c = 10
    · subst h1; simp; omega
    · by_cases h2 : c = 92
      · subst h2; simp; omega
      · by_cases h3 : c = 34
        · subst h3; simp; omega
        · simp [h1, h2, h3]
theorem cnt_take (s : List UInt8) (i : Nat) (h : i < s.length) : cnt (s.take (i + 1)) = cnt (s.take i) + (if (spec (s[i]'h)).isSome then 1 else 0) := by
  unfold cnt
  rw [List.take_add_one, List.getElem?_eq_getElem h, List.countP_append]
  simp [List.countP_cons]
theorem escL_take (s : List UInt8) (i : Nat) (h : i < s.length) : escL (s.take (i + 1)) = escL (s.take i) ++ esc (s[i]'h) := by
  unfold escL
  rw [List.take_add_one, List.getElem?_eq_getElem h, List.flatMap_append]
  simp
theorem cnt_le (s : List UInt8) : cnt s ≤ s.length := List.countP_le_length

def full : List (Nat × Nat) := [(10, 110), (92, 92), (34, 34)]
theorem tab_cell {B bb : Nat} {w : World} (T : Tab B bb full w) (c : UInt8) :
    match spec c with
    | none => w.cell? ⟨bb, c.toNat, none⟩ = some (.slice none 0 0)
    | some d => ∃ g cap, w.cell? ⟨bb, c.toNat, none⟩ = some (.slice (some ⟨g, 0, none⟩) 2 cap) ∧ w.cell? ⟨g, 0, none⟩ = some (.int .u8 92) ∧ w.cell? ⟨g, 1, none⟩ = some (.int .u8 (d.toNat : Int)) := by
  obtain ⟨PA, v, h1, h2, h3, h4⟩ := T
  have hc : c.toNat < 256 := c.toNat_lt
  have hcell : w.cell? ⟨bb, c.toNat, none⟩ = PA[c.toNat]? := by rw [Lib.cell_of_heap h1, Array.getElem?_push, if_neg (by omega)]
  rw [hcell]
  have key : ∀ d : UInt8, (c.toNat, d.toNat) ∈ full → (∀ d', (c.toNat, d') ∈ full → d' = d.toNat) → ∃ g cap, PA[c.toNat]? = some (.slice (some ⟨g, 0, none⟩) 2 cap) ∧ w.cell? ⟨g, 0, none⟩ = some (.int .u8 92) ∧ w.cell? ⟨g, 1, none⟩ = some (.int .u8 (d.toNat : Int)) := by
    intro d hm hu
    rcases h4 c.toNat hc with ⟨d', hm', g, cap, cur, fr, k1, k2, k3, k4, k5⟩ | ⟨k1, k2⟩
    · have := hu d' hm'
      subst this
      exact ⟨g, cap, k1, by rw [Lib.cell_of_heap k3]; exact k4, by rw [Lib.cell_of_heap k3]; exact k5⟩
    · exact absurd hm (k1 _)
  by_cases e1 : c = 10
  · subst e1
    exact key 110 (by decide) (by intro d' h; simp [full] at h; exact h)
  · by_cases e2 : c = 92
    · subst e2
      exact key 92 (by decide) (by intro d' h; simp [full] at h; exact h)
    · by_cases e3 : c = 34
      · subst e3
        exact key 34 (by decide) (by intro d' h; simp [full] at h; exact h)
      · have hs : spec c = none := by unfold spec; rw [if_neg e1, if_neg e2, if_neg e3]
        rw [hs]
        rcases h4 c.toNat hc with ⟨d', hm', _⟩ | ⟨k1, k2⟩
        · exfalso
          simp only [full, List.mem_cons, Prod.mk.injEq, List.not_mem_nil, or_false] at hm'
          rcases hm' with ⟨h, _⟩ | ⟨h, _⟩ | ⟨h, _⟩
          · exact e1 (UInt8.toNat_inj.1 h)
          · exact e2 (UInt8.toNat_inj.1 h)
          · exact e3 (UInt8.toNat_inj.1 h)
        · exact k2
theorem tab_strs {B bb : Nat} {w : World} (T : Tab B bb full w) : ∃ h cap, w.cell? ⟨bb, 256, none⟩ = some (.slice (some ⟨h, 0, none⟩) 3 cap) ∧ w.cell? ⟨h, 0, none⟩ = some (.string ⟨#[10]⟩) ∧ w.cell? ⟨h, 1, none⟩ = some (.string ⟨#[92]⟩) ∧ w.cell? ⟨h, 2, none⟩ = some (.string ⟨#[34]⟩) := by
  obtain ⟨PA, v, h1, h2, h3, h4⟩ := T
  obtain ⟨_, h3⟩ := h3
  rcases h3 with ⟨_, hn⟩ | ⟨g, cap, cur, rfl, hg, hh, hc, hm, hs, ht⟩
  · simp [full] at hn
  · refine ⟨g, cap, by rw [Lib.cell_of_heap h1, Array.getElem?_push, if_pos h2.symm]; rfl, ?_, ?_, ?_⟩
    all_goals
      rw [Lib.cell_of_heap hh, ← Array.getElem?_toList]
      have e : cur.toList.take 3 = signs3 full := ht
      have hi : ∀ j, j < 3 → cur.toList[j]? = (signs3 full)[j]? := fun j hj => by rw [← e, List.getElem?_take, if_pos hj]
      rw [hi _ (by decide)]
      rfl
/-- a buffer of n bytes, of which the first ones are written -/
def bufC (done : List UInt8) (n : Nat) : Array Value := (Lib.byteCells done ++ List.replicate (n - done.length) (Value.int .u8 0)).toArray
theorem bufC_zero (n : Nat) : bufC [] n = Array.replicate n (.int .u8 0) := by
  apply Array.ext'
  rw [Array.toList_replicate]
  simp [bufC, Lib.byteCells]
theorem bufC_put (done : List UInt8) (n : Nat) (c : UInt8) (h : done.length < n) : (bufC done n).setIfInBounds done.length (.int .u8 (c.toNat : Int)) = bufC (done ++ [c]) n := by
  apply Array.ext'
  rw [Array.toList_setIfInBounds]
  obtain ⟨m, hm⟩ : ∃ m, n - done.length = m + 1 := ⟨n - done.length - 1, by omega⟩
  have e2 : n - (done ++ [c]).length = m := by rw [List.length_append, List.length_cons, List.length_nil]; omega
  simp only [bufC, hm, e2]
  rw [List.set_append_right _ _ (by rw [Lib.byteCells_length]; exact Nat.le_refl _), Lib.byteCells_length, Nat.sub_self, List.replicate_succ, List.set_cons_zero]
  simp [Lib.byteCells]
theorem bufC_full (done : List UInt8) (n : Nat) (h : done.length = n) : bufC done n = (Lib.byteCells done).toArray := by
  unfold bufC
  rw [show n - done.length = 0 by omega, List.replicate_zero, List.append_nil]
theorem bufC_size (done : List UInt8) (n : Nat) (h : done.length ≤ n) : (bufC done n).size = n := by
  simp only [bufC, List.size_toArray, List.length_append, Lib.byteCells_length, List.length_replicate]; omega
theorem made_bytes (n : Nat) : madeCells (Value.int .u8 0).cells n = Array.replicate n (.int .u8 0) := by
  unfold madeCells
  apply Array.ext'
  rw [Array.toList_map, Array.toList_replicate, List.eq_replicate_iff]
  refine ⟨by simp, fun b hb => ?_⟩
  obtain ⟨x, _, rfl⟩ := List.mem_map.1 hb
  have e : x % (Value.int .u8 0).cells.size = 0 := Nat.mod_one x
  rw [e]
  rfl
end Go.Proofs.YtmkfeanggmjhmaaGreat.Rp

/- Walk of strings.Replacer's Replace over a table of replacements. -/
namespace Go.Proofs.YtmkfeanggmjhmaaGreat.Rp
open Go Go.RowKit
set_option linter.unusedSimpArgs false
set_option linter.unusedVariables false

theorem neq_nil (a : Option Addr) (l c : Nat) (w : World) : (binOp .neq 115 (.slice a l c) (.slice none 0 0)).run Tryz.prog w = .ok (.bool (!a.isNone)) w := run_neq_slice_nil w 115 5 a l c Tryz.underlying115
theorem make_bytes (n : Nat) (h : n ≤ 1000000000) (w : World) : (Instr.makeSlice 115 (.int .i64 (n : Int)) (.int .i64 (n : Int))).run Tryz.prog w = .ok (.slice (some ⟨w.heap.size, 0, none⟩) n n) (w.alloc (.cells (bufC [] n) 5)) := by
  obtain ⟨i0, hi, hz0, hz1, hz2⟩ := info_parts Bld.infoByte
  have := run_make (P := Tryz.prog) w 115 5 i0 _ Tryz.underlying115 hi hz0 .i64 .i64 (n : Int) (n : Int) (by omega) (Int.le_refl _) (by rw [hz2]; omega) (by omega)
  rw [hz1, Int.toNat_natCast, Nat.mul_one, made_bytes] at this
  rw [bufC_zero]
  exact this
theorem addr_add (k q : Nat) : (⟨k, 0, none⟩ : Addr).add q = ⟨k, q, none⟩ := by unfold Addr.add; split <;> simp_all
theorem escL_take_le (s : List UInt8) (i : Nat) : (escL (s.take i)).length ≤ (escL s).length := by
  have e : escL s = escL (s.take i) ++ escL (s.drop i) := by
    unfold escL
    rw [← List.flatMap_append, List.take_append_drop]
  rw [e, List.length_append]
  omega
theorem put_heap {w : World} {k j n : Nat} {done : List UInt8} {c : UInt8} (hh : w.heap[k]? = some (.cells (bufC done n) 5 (0, 0))) (hj : j = done.length) (h : done.length < n) :
    (w.setCell ⟨k, j, none⟩ (.int .u8 (c.toNat : Int))).heap[k]? = some (.cells (bufC (done ++ [c]) n) 5 (0, 0)) := by
  subst hj
  rw [setCell_eq_setRow w k _ _ 5 (0, 0) _ hh, bufC_put _ _ _ h]
  exact setRow_heap _ _ _ _ _ _ hh
theorem copy_two' (w : World) (k g j n m cap c2 : Nat) (d : UInt8) (done : List UInt8) (h : done.length + 2 ≤ n) (hj : j = done.length) (hm : m = n - j) (c0 : w.cell? ⟨g, 0, none⟩ = some (.int .u8 92)) (c1 : w.cell? ⟨g, 1, none⟩ = some (.int .u8 (d.toNat : Int)))
    (hk : w.heap[k]? = some (.cells (bufC done n) 5 (0, 0))) : (Builtin.copy_ #[115, 115] 3 #[.slice (some ⟨k, j, none⟩) m c2, .slice (some ⟨g, 0, none⟩) 2 cap]).run Tryz.prog w = .ok (.int .i64 2) ((w.setCell ⟨k, j, none⟩ (.int .u8 92)).setCell ⟨k, j + 1, none⟩ (.int .u8 (d.toNat : Int))) := by
  subst hj hm
  have := run_copy_cells (P := Tryz.prog) w 115 115 3 5 k done.length (n - done.length) c2 ⟨g, 0, none⟩ 2 cap [.int .u8 92, .int .u8 (d.toNat : Int)] Tryz.underlying115 (by kernel_rfl) (by show 2 = min 2 (n - done.length); omega)
    (by intro i v hi; match i, hi with | 0, hi => simp at hi; subst hi; simpa [Addr.add] using c0 | 1, hi => simp at hi; subst hi; simpa [Addr.add] using c1)
    (by intro i hi; have hi : i < 2 := hi; rw [Lib.cell_of_heap hk, Array.getElem?_eq_getElem (by rw [bufC_size done n (by omega)]; omega)]; rfl)
    (by intro i hi; exact Lib.frozen_of_heap hk _) (by intro v hv; simp at hv; rcases hv with rfl | rfl <;> rfl)
  rw [this]
  rfl
theorem tab_cell' {w wr : World} {bb nd : Nat} (hw : wr = w.drewN nd) (h : ∀ c : UInt8, match spec c with
    | none => w.cell? ⟨bb, c.toNat, none⟩ = some (.slice none 0 0)
    | some d => ∃ g cap, w.cell? ⟨bb, c.toNat, none⟩ = some (.slice (some ⟨g, 0, none⟩) 2 cap) ∧ w.cell? ⟨g, 0, none⟩ = some (.int .u8 92) ∧ w.cell? ⟨g, 1, none⟩ = some (.int .u8 (d.toNat : Int))) (c : UInt8) :
    match spec c with
    | none => wr.cell? ⟨bb, c.toNat, none⟩ = some (.slice none 0 0)
    | some d => ∃ g cap, wr.cell? ⟨bb, c.toNat, none⟩ = some (.slice (some ⟨g, 0, none⟩) 2 cap) ∧ wr.cell? ⟨g, 0, none⟩ = some (.int .u8 92) ∧ wr.cell? ⟨g, 1, none⟩ = some (.int .u8 (d.toNat : Int)) := by
  subst hw
  exact h c

set_option maxRecDepth 100000 in
set_option maxHeartbeats 4000000 in
theorem Replace_calls (B bb : Nat) (w : World) (T : Tab B bb full w) (s : ByteArray) (hs : s.size ≤ 1000000) :
    Calls Tryz.prog 147 #[.pointer (some ⟨bb, 0, none⟩), .string s] w fun r w' => r = .returned (.string ⟨(escL s.data.toList).toArray⟩) ∧ Below w.heap.size w w' := by
  obtain ⟨h, cap, t0, t1, t2, t3⟩ := tab_strs T
  have HT := Lib.hid (tab_cell T)
  have hcl := cnt_le s.data.toList
  have hsl : s.data.toList.length = s.size := rfl
  have HL := Lib.hid (escL_len s.data.toList)
  have HS := Lib.hid (cnt_split s.data.toList)
  have hnq := neq_nil
  have hnot : ∀ (x : Bool) (w : World), (Op.unary .not (.bool x)).run Tryz.prog w = .ok (.bool (!x)) w := fun _ _ => rfl
  clear T
  by_cases h24 : 24 ≤ s.size
  · have g24 : (24 : Int) ≤ (s.size : Int) := by omega
    go_enter Tryz.func147, Tryz.ntmps147
    go_wp2
    have HC10 := Lib.hid (fun w => Tryz.strings_Count_one s 10 w)
    have HC92 := Lib.hid (fun w => Tryz.strings_Count_one s 92 w)
    have HC34 := Lib.hid (fun w => Tryz.strings_Count_one s 34 w)
    unfold Lib.countByte at HC10 HC92 HC34
    have l10 : s.data.toList.count 10 ≤ s.size := by rw [← hsl]; exact List.count_le_length
    have l92 : s.data.toList.count 92 ≤ s.size := by rw [← hsl]; exact List.count_le_length
    have l34 : s.data.toList.count 34 ≤ s.size := by rw [← hsl]; exact List.count_le_length
    generalize s.data.toList.count 10 = k10 at HC10 HS l10
    generalize s.data.toList.count 92 = k92 at HC92 HS l92
    generalize s.data.toList.count 34 = k34 at HC34 HS l34
    have h10 := HT.out 10
    have h92 := HT.out 92
    have h34 := HT.out 34
    obtain ⟨g10, c10, a10, _, _⟩ := h10
    obtain ⟨g92, c92, a92, _, _⟩ := h92
    obtain ⟨g34, c34, a34, _, _⟩ := h34
    have b10 : ((⟨#[10]⟩ : ByteArray)[0]'(by decide)).toNat = 10 := rfl
    have b92 : ((⟨#[92]⟩ : ByteArray)[0]'(by decide)).toNat = 92 := rfl
    have b34 : ((⟨#[34]⟩ : ByteArray)[0]'(by decide)).toNat = 34 := rfl
    have a10' : w.cell? ⟨bb, 10, none⟩ = _ := a10
    have a92' : w.cell? ⟨bb, 92, none⟩ = _ := a92
    have a34' : w.cell? ⟨bb, 34, none⟩ = _ := a34
    clear a10 a92 a34
    go_loopg [5, 6, 32] 4 (fun gg v5 v6 v32 wr => Hid (∃ nd, wr = w.drewN nd) ∧ ∃ m : Nat, v5 = .int .i64 ((s.size + m : Nat) : Int) ∧ v6 = .bool (decide (0 < m)) ∧ ((v32 = .int .i64 0 ∧ m = 0 ∧ 4 ≤ gg) ∨ (v32 = .int .i64 1 ∧ m = k10 ∧ 3 ≤ gg) ∨ (v32 = .int .i64 2 ∧ m = k10 + k92 ∧ 2 ≤ gg) ∨ (v32 = .int .i64 3 ∧ m = k10 + k92 + k34)))
    case atStart => exact ⟨⟨0, rfl⟩, 0, by simp, rfl, .inl ⟨rfl, rfl, Nat.le_refl _⟩⟩
    case round =>
      obtain ⟨HW, m, rfl, rfl, hrel⟩ := hrel
      have hw := HW.out
      obtain ⟨nd, hw⟩ := hw
      have q0 : wr.cell? ⟨bb, 256, none⟩ = _ := (congrArg (fun x => World.cell? x ⟨bb, 256, none⟩) hw).trans t0
      have q1 : wr.cell? ⟨h, 0, none⟩ = _ := (congrArg (fun x => World.cell? x ⟨h, 0, none⟩) hw).trans t1
      have q2 : wr.cell? ⟨h, 1, none⟩ = _ := (congrArg (fun x => World.cell? x ⟨h, 1, none⟩) hw).trans t2
      have q3 : wr.cell? ⟨h, 2, none⟩ = _ := (congrArg (fun x => World.cell? x ⟨h, 2, none⟩) hw).trans t3
      have r10 : wr.cell? ⟨bb, 10, none⟩ = _ := (congrArg (fun x => World.cell? x ⟨bb, 10, none⟩) hw).trans a10'
      have r92 : wr.cell? ⟨bb, 92, none⟩ = _ := (congrArg (fun x => World.cell? x ⟨bb, 92, none⟩) hw).trans a92'
      have r34 : wr.cell? ⟨bb, 34, none⟩ = _ := (congrArg (fun x => World.cell? x ⟨bb, 34, none⟩) hw).trans a34'
      have Hw := Lib.hid hw
      clear hw HW t1 t2 t3 t0 a10' a92' a34'
      rcases hrel with ⟨rfl, hm, hg⟩ | ⟨rfl, hm, hg⟩ | ⟨rfl, hm, hg⟩ | ⟨rfl, hm⟩
      · subst hm
        by_cases h0 : k10 = 0
        · have g0 : (((k10 : Nat) : Int) != 0) = false := by simp [h0]
          go_wp2_with (first | (go_at_call 149; refine (HC10.out _).mono ?_; rintro e w' ⟨rfl, hw'⟩; cases hw'))
          go_roundg 3
          case measure => omega
          case rel => exact ⟨⟨nd, Hw.out⟩, 0, by first | rfl | simp, by first | rfl | (simp; done) | (simp; omega), .inr (.inl ⟨rfl, by omega, Nat.le_refl _⟩)⟩
        · have g0 : (((k10 : Nat) : Int) != 0) = true := by simp [h0]
          go_wp2_with (first | (go_at_call 149; refine (HC10.out _).mono ?_; rintro e w' ⟨rfl, hw'⟩; cases hw'))
          go_region
          all_goals
            go_wp2
            go_roundg 3
            case measure => omega
            case rel => exact ⟨⟨nd + 1, by rw [Hw.out]; rfl⟩, k10, by go_num, by first | rfl | (simp; done) | (simp; omega), .inr (.inl ⟨rfl, rfl, Nat.le_refl _⟩)⟩
      · subst hm
        by_cases h0 : k92 = 0
        · have g0 : (((k92 : Nat) : Int) != 0) = false := by simp [h0]
          go_wp2_with (first | (go_at_call 149; refine (HC92.out _).mono ?_; rintro e w' ⟨rfl, hw'⟩; cases hw'))
          go_roundg 2
          case measure => omega
          case rel => exact ⟨⟨nd, Hw.out⟩, m, by first | rfl | simp, by first | rfl | (simp; done) | (simp; omega), .inr (.inr (.inl ⟨rfl, by omega, Nat.le_refl _⟩))⟩
        · have g0 : (((k92 : Nat) : Int) != 0) = true := by simp [h0]
          go_wp2_with (first | (go_at_call 149; refine (HC92.out _).mono ?_; rintro e w' ⟨rfl, hw'⟩; cases hw'))
          go_region
          all_goals
            go_wp2
            go_roundg 2
            case measure => omega
            case rel => exact ⟨⟨nd + 1, by rw [Hw.out]; rfl⟩, m + k92, by go_num, by first | rfl | (simp; done) | (simp; omega), .inr (.inr (.inl ⟨rfl, rfl, Nat.le_refl _⟩))⟩
      · subst hm
        by_cases h0 : k34 = 0
        · have g0 : (((k34 : Nat) : Int) != 0) = false := by simp [h0]
          go_wp2_with (first | (go_at_call 149; refine (HC34.out _).mono ?_; rintro e w' ⟨rfl, hw'⟩; cases hw'))
          go_roundg 1
          case measure => omega
          case rel => exact ⟨⟨nd, Hw.out⟩, k10 + k92, by first | rfl | simp, by first | rfl | (simp; done) | (simp; omega), .inr (.inr (.inr ⟨rfl, by omega⟩))⟩
        · have g0 : (((k34 : Nat) : Int) != 0) = true := by simp [h0]
          go_wp2_with (first | (go_at_call 149; refine (HC34.out _).mono ?_; rintro e w' ⟨rfl, hw'⟩; cases hw'))
          go_region
          all_goals
            go_wp2
            go_roundg 1
            case measure => omega
            case rel => exact ⟨⟨nd + 1, by rw [Hw.out]; rfl⟩, k10 + k92 + k34, by go_num, by first | rfl | (simp; done) | (simp; omega), .inr (.inr (.inr ⟨rfl, rfl⟩))⟩
      · have hm' : m = cnt s.data.toList := by rw [HS.out]; exact hm
        clear hm
        have hmc : m ≤ s.size := by omega
        have Hm := Lib.hid hm'
        clear hm'
        have HT' := Lib.hid (fun c => (tab_cell' Hw.out HT.out c))
        by_cases h0 : m = 0
        · subst h0
          go_wp2
          go_ret
          refine ⟨?_, by rw [Hw.out]; exact below_drewN (Below.refl _ _) nd⟩
          rw [escL_same _ Hm.out.symm]
          rfl
        · have g0 : decide (0 < m) = true := by simpa using Nat.pos_of_ne_zero h0
          have hmk := make_bytes (s.size + m) (by omega)
          simp only [Int.natCast_add] at hmk
          have hW1 : ∃ W1, W1 = wr := ⟨_, rfl⟩
          obtain ⟨W1, hW1⟩ := hW1
          subst hW1
          go_wp2
          have Hs := Lib.hid (bufC_size [] (s.size + m) (Nat.zero_le _))
          go_loopg [13, 14] s.size (fun gg v13 v14 wx => ∃ i j : Nat, i ≤ s.size ∧ s.size - i ≤ gg ∧ v14 = .int .i64 i ∧ v13 = .int .i64 j ∧ Hid (j = (escL (s.data.toList.take i)).length) ∧ j ≤ s.size + m ∧ Hid (Below W1.heap.size W1 wx) ∧
            Hid (wx.heap[W1.heap.size]? = some (.cells (bufC (escL (s.data.toList.take i)) (s.size + m)) 5 (0, 0))))
          case atStart => exact ⟨0, 0, Nat.zero_le _, Nat.le_refl _, rfl, rfl, rfl, Nat.zero_le _, Lib.hid ((Below.refl _ _).alloc (Nat.le_refl _) _), Lib.hid (World.alloc_heap_new _ _)⟩
          case round =>
            obtain ⟨i, j, hi, hgg, rfl, rfl, Hj, hjn, HB, Hk⟩ := hrel
            by_cases hlt : i < s.size
            · have hltz : (i : Int) < (s.size : Int) := by omega
              have Htake := Lib.hid (escL_take s.data.toList i hlt)
              have hle := escL_take_le s.data.toList (i + 1)
              rw [HL.out, hsl, ← Hm.out] at hle
              have hx := HT'.out (s.data.toList[i]'hlt)
              have hgx : (s[i]'hlt) = s.data.toList[i]'hlt := rfl
              rw [Htake.out, List.length_append, ← Hj.out] at hle
              have Hgx := Lib.hid hgx
              generalize hX : s.data.toList[i]'hlt = x at hx Htake hle Hgx
              clear hX hgx
              have hgx := Hgx.out
              have hx256 : (x.toNat : Int) < 256 := by have := x.toNat_lt; omega
              unfold esc at Htake hle
              cases hsp : spec x with
              | none =>
                rw [hsp] at hx Htake hle
                simp only [List.length_cons, List.length_nil] at hx hle Htake
                have hxc : wr.cell? ⟨bb, x.toNat, none⟩ = some (.slice none 0 0) := (HB.out.cell (p := ⟨bb, x.toNat, none⟩) (K.lt_of_cell hx)).trans hx
                have hf0 : wr.frozen? ⟨W1.heap.size, j, none⟩ = false := Lib.frozen_of_heap Hk.out _
                obtain ⟨v0, hv0⟩ : ∃ v0, wr.cell? ⟨W1.heap.size, j, none⟩ = some v0 := by
                  rw [Lib.cell_of_heap Hk.out, Array.getElem?_eq_getElem (by rw [bufC_size _ _ (by rw [← Hj.out]; exact hjn)]; omega)]
                  exact ⟨_, rfl⟩
                clear hx
                go_wp2
                go_roundg (s.size - (i + 1))
                case measure => omega
                case rel =>
                  exact ⟨i + 1, j + 1, by omega, Nat.le_refl _, by go_num, by go_num, Lib.hid (by rw [Htake.out, List.length_append, ← Hj.out]; rfl), by omega, Lib.hid (HB.out.setCell (p := ⟨W1.heap.size, j, none⟩) (Nat.le_refl _) _),
                    Lib.hid (by rw [Htake.out]; exact put_heap Hk.out Hj.out (by rw [← Hj.out]; omega))⟩
              | some d =>
                rw [hsp] at hx Htake hle
                simp only [List.length_cons, List.length_nil] at hx hle Htake
                obtain ⟨g, cp, hx0, hx1, hx2⟩ := hx
                have y0 : wr.cell? ⟨bb, x.toNat, none⟩ = some (.slice (some ⟨g, 0, none⟩) 2 cp) := (HB.out.cell (p := ⟨bb, x.toNat, none⟩) (K.lt_of_cell hx0)).trans hx0
                have y1 : wr.cell? ⟨g, 0, none⟩ = some (.int .u8 92) := (HB.out.cell (p := ⟨g, 0, none⟩) (K.lt_of_cell hx1)).trans hx1
                have y2 : wr.cell? ⟨g, 1, none⟩ = some (.int .u8 (d.toNat : Int)) := (HB.out.cell (p := ⟨g, 1, none⟩) (K.lt_of_cell hx2)).trans hx2
                have hjlt : (j : Int) < (s.size : Int) + (m : Int) := by omega
                have hcp := copy_two' wr.drew W1.heap.size g j (s.size + m) (s.size + m - j) cp (s.size + m - j) d _ (by rw [← Hj.out]; omega) Hj.out rfl y1 y2 Hk.out
                clear hx0 hx1 hx2 y1 y2
                go_wp2
                go_region
                all_goals
                  go_wp2
                  go_roundg (s.size - (i + 1))
                  case measure => omega
                  case rel =>
                    have hb2 := (HB.out.setCell (p := ⟨W1.heap.size, j, none⟩) (Nat.le_refl _) (.int .u8 92)).setCell (p := ⟨W1.heap.size, j + 1, none⟩) (Nat.le_refl _) (.int .u8 (d.toNat : Int))
                    have hp1 := put_heap (c := 92) Hk.out Hj.out (by rw [← Hj.out]; omega)
                    have hp2 := put_heap (j := j + 1) (c := d) hp1 (by rw [List.length_append, ← Hj.out]; rfl) (by rw [List.length_append, ← Hj.out]; simp only [List.length_cons, List.length_nil]; omega)
                    rw [List.append_assoc] at hp2
                    exact ⟨i + 1, j + 2, by omega, Nat.le_refl _, by go_num, by go_num, Lib.hid (by rw [Htake.out, List.length_append, ← Hj.out]; rfl), by omega, Lib.hid ⟨hb2.os, hb2.tape, hb2.output, hb2.size, hb2.block⟩,
                      Lib.hid (by rw [Htake.out]; exact hp2)⟩
            · have hltz : ¬ (i : Int) < (s.size : Int) := by omega
              obtain rfl : i = s.size := by omega
              have htk : s.data.toList.take s.size = s.data.toList := List.take_of_length_le (Nat.le_refl _)
              rw [htk] at Hj Hk
              have hbl : (escL s.data.toList).length = s.size + m := by rw [HL.out, hsl, ← Hm.out]
              have hcv := run_convert_bytes_back (P := Tryz.prog) wr 115 9 5 ⟨W1.heap.size, 0, none⟩ (s.size + m) (escL s.data.toList) Tryz.underlying115 Tryz.underlying5 Tryz.underlying9 (by
                intro q hq
                rw [addr_add, Lib.cell_of_heap Hk.out, bufC_full _ _ hbl, List.getElem?_toArray]
                unfold Lib.byteCells
                rw [List.getElem?_map, List.getElem?_eq_getElem hq]
                rfl)
              rw [hbl] at hcv
              have HW2 := Lib.hid Hw.out
              clear hbl htk Hj
              go_wp2
              go_ret
              refine ⟨rfl, ?_⟩
              have z1 : W1.heap.size = w.heap.size := by rw [Hw.out]; rfl
              have hb0 : Below w.heap.size w W1 := by rw [Hw.out]; exact below_drewN (Below.refl _ _) nd
              exact hb0.trans (HB.out.mono (by omega))
  · have g24 : ¬ (24 : Int) ≤ (s.size : Int) := by omega
    go_enter Tryz.func147, Tryz.ntmps147
    go_wp2
    go_loopg [5, 6, 10] s.size (fun gg v5 v6 v10 wr => Hid (∃ nd, wr = w.drewN nd) ∧ ∃ i m : Nat, i ≤ s.size ∧ s.size - i ≤ gg ∧ v10 = .int .i64 i ∧ m ≤ i ∧ v5 = .int .i64 ((s.size + m : Nat) : Int) ∧ v6 = .bool (decide (0 < m)) ∧ Hid (m = cnt (s.data.toList.take i)))
    case atStart => exact ⟨⟨0, rfl⟩, 0, 0, Nat.zero_le _, Nat.le_refl _, rfl, Nat.le_refl _, by simp, rfl, rfl⟩
    case round =>
      obtain ⟨HW, i, m, hi, hgg, rfl, hmi, rfl, rfl, HM⟩ := hrel
      have hw := HW.out
      obtain ⟨nd, hw⟩ := hw
      have Hw := Lib.hid hw
      have q0 : wr.cell? ⟨bb, 256, none⟩ = _ := (congrArg (fun x => World.cell? x ⟨bb, 256, none⟩) hw).trans t0
      clear hw HW t1 t2 t3 t0
      by_cases hlt : i < s.size
      · have hltz : (i : Int) < (s.size : Int) := by omega
        have Htake := Lib.hid (cnt_take s.data.toList i hlt)
        have hx := tab_cell' Hw.out HT.out (s.data.toList[i]'hlt)
        have hgx : (s[i]'hlt) = s.data.toList[i]'hlt := rfl
        generalize s.data.toList[i]'hlt = x at hx Htake hgx
        have hx256 : (x.toNat : Int) < 256 := by have := x.toNat_lt; omega
        cases hsp : spec x with
        | none =>
          rw [hsp] at hx Htake
          simp only at hx
          clear hsp
          go_wp2
          go_roundg (s.size - (i + 1))
          case measure => omega
          case rel => exact ⟨⟨nd, Hw.out⟩, i + 1, m, by omega, Nat.le_refl _, by go_num, by omega, rfl, rfl, Lib.hid (by rw [Htake.out, HM.out]; rfl)⟩
        | some d =>
          rw [hsp] at hx Htake
          simp only at hx
          obtain ⟨g, cp, hx0, hx1, hx2⟩ := hx
          clear hsp hx1 hx2
          go_wp2
          (try go_region)
          all_goals
            (try go_wp2)
            go_roundg (s.size - (i + 1))
            case measure => omega
            case rel => exact ⟨by first | exact ⟨nd, Hw.out⟩ | exact ⟨nd + 1, by rw [Hw.out]; rfl⟩, i + 1, m + 1, by omega, Nat.le_refl _, by go_num, by omega, by go_num, by simp, Lib.hid (by rw [Htake.out, HM.out]; rfl)⟩
      · have hltz : ¬ (i : Int) < (s.size : Int) := by omega
        obtain rfl : i = s.size := by omega
        have htk : s.data.toList.take s.size = s.data.toList := List.take_of_length_le (Nat.le_refl _)
        rw [htk] at HM
        have hm' := HM.out
        clear HM htk hi hgg hmi hltz
        have hmc : m ≤ s.size := by omega
        have Hm := Lib.hid hm'
        clear hm'
        have HT' := Lib.hid (fun c => (tab_cell' Hw.out HT.out c))
        by_cases h0 : m = 0
        · subst h0
          go_wp2
          go_ret
          refine ⟨?_, by rw [Hw.out]; exact below_drewN (Below.refl _ _) nd⟩
          rw [escL_same _ Hm.out.symm]
          rfl
        · have g0 : decide (0 < m) = true := by simpa using Nat.pos_of_ne_zero h0
          have hmk := make_bytes (s.size + m) (by omega)
          simp only [Int.natCast_add] at hmk
          have hW1 : ∃ W1, W1 = wr := ⟨_, rfl⟩
          obtain ⟨W1, hW1⟩ := hW1
          subst hW1
          go_wp2
          have Hs := Lib.hid (bufC_size [] (s.size + m) (Nat.zero_le _))
          go_loopg [13, 14] s.size (fun gg v13 v14 wx => ∃ i j : Nat, i ≤ s.size ∧ s.size - i ≤ gg ∧ v14 = .int .i64 i ∧ v13 = .int .i64 j ∧ Hid (j = (escL (s.data.toList.take i)).length) ∧ j ≤ s.size + m ∧ Hid (Below W1.heap.size W1 wx) ∧
            Hid (wx.heap[W1.heap.size]? = some (.cells (bufC (escL (s.data.toList.take i)) (s.size + m)) 5 (0, 0))))
          case atStart => exact ⟨0, 0, Nat.zero_le _, Nat.le_refl _, rfl, rfl, rfl, Nat.zero_le _, Lib.hid ((Below.refl _ _).alloc (Nat.le_refl _) _), Lib.hid (World.alloc_heap_new _ _)⟩
          case round =>
            obtain ⟨i, j, hi, hgg, rfl, rfl, Hj, hjn, HB, Hk⟩ := hrel
            by_cases hlt : i < s.size
            · have hltz : (i : Int) < (s.size : Int) := by omega
              have Htake := Lib.hid (escL_take s.data.toList i hlt)
              have hle := escL_take_le s.data.toList (i + 1)
              rw [HL.out, hsl, ← Hm.out] at hle
              have hx := HT'.out (s.data.toList[i]'hlt)
              have hgx : (s[i]'hlt) = s.data.toList[i]'hlt := rfl
              rw [Htake.out, List.length_append, ← Hj.out] at hle
              have Hgx := Lib.hid hgx
              generalize hX : s.data.toList[i]'hlt = x at hx Htake hle Hgx
              clear hX hgx
              have hgx := Hgx.out
              have hx256 : (x.toNat : Int) < 256 := by have := x.toNat_lt; omega
              unfold esc at Htake hle
              cases hsp : spec x with
              | none =>
                rw [hsp] at hx Htake hle
                simp only [List.length_cons, List.length_nil] at hx hle Htake
                have hxc : wr.cell? ⟨bb, x.toNat, none⟩ = some (.slice none 0 0) := (HB.out.cell (p := ⟨bb, x.toNat, none⟩) (K.lt_of_cell hx)).trans hx
                have hf0 : wr.frozen? ⟨W1.heap.size, j, none⟩ = false := Lib.frozen_of_heap Hk.out _
                obtain ⟨v0, hv0⟩ : ∃ v0, wr.cell? ⟨W1.heap.size, j, none⟩ = some v0 := by
                  rw [Lib.cell_of_heap Hk.out, Array.getElem?_eq_getElem (by rw [bufC_size _ _ (by rw [← Hj.out]; exact hjn)]; omega)]
                  exact ⟨_, rfl⟩
                clear hx
                go_wp2
                go_roundg (s.size - (i + 1))
                case measure => omega
                case rel =>
                  exact ⟨i + 1, j + 1, by omega, Nat.le_refl _, by go_num, by go_num, Lib.hid (by rw [Htake.out, List.length_append, ← Hj.out]; rfl), by omega, Lib.hid (HB.out.setCell (p := ⟨W1.heap.size, j, none⟩) (Nat.le_refl _) _),
                    Lib.hid (by rw [Htake.out]; exact put_heap Hk.out Hj.out (by rw [← Hj.out]; omega))⟩
              | some d =>
                rw [hsp] at hx Htake hle
                simp only [List.length_cons, List.length_nil] at hx hle Htake
                obtain ⟨g, cp, hx0, hx1, hx2⟩ := hx
                have y0 : wr.cell? ⟨bb, x.toNat, none⟩ = some (.slice (some ⟨g, 0, none⟩) 2 cp) := (HB.out.cell (p := ⟨bb, x.toNat, none⟩) (K.lt_of_cell hx0)).trans hx0
                have y1 : wr.cell? ⟨g, 0, none⟩ = some (.int .u8 92) := (HB.out.cell (p := ⟨g, 0, none⟩) (K.lt_of_cell hx1)).trans hx1
                have y2 : wr.cell? ⟨g, 1, none⟩ = some (.int .u8 (d.toNat : Int)) := (HB.out.cell (p := ⟨g, 1, none⟩) (K.lt_of_cell hx2)).trans hx2
                have hjlt : (j : Int) < (s.size : Int) + (m : Int) := by omega
                have hcp := copy_two' wr.drew W1.heap.size g j (s.size + m) (s.size + m - j) cp (s.size + m - j) d _ (by rw [← Hj.out]; omega) Hj.out rfl y1 y2 Hk.out
                clear hx0 hx1 hx2 y1 y2
                go_wp2
                go_region
                all_goals
                  go_wp2
                  go_roundg (s.size - (i + 1))
                  case measure => omega
                  case rel =>
                    have hb2 := (HB.out.setCell (p := ⟨W1.heap.size, j, none⟩) (Nat.le_refl _) (.int .u8 92)).setCell (p := ⟨W1.heap.size, j + 1, none⟩) (Nat.le_refl _) (.int .u8 (d.toNat : Int))
                    have hp1 := put_heap (c := 92) Hk.out Hj.out (by rw [← Hj.out]; omega)
                    have hp2 := put_heap (j := j + 1) (c := d) hp1 (by rw [List.length_append, ← Hj.out]; rfl) (by rw [List.length_append, ← Hj.out]; simp only [List.length_cons, List.length_nil]; omega)
                    rw [List.append_assoc] at hp2
                    exact ⟨i + 1, j + 2, by omega, Nat.le_refl _, by go_num, by go_num, Lib.hid (by rw [Htake.out, List.length_append, ← Hj.out]; rfl), by omega, Lib.hid ⟨hb2.os, hb2.tape, hb2.output, hb2.size, hb2.block⟩,
                      Lib.hid (by rw [Htake.out]; exact hp2)⟩
            · have hltz : ¬ (i : Int) < (s.size : Int) := by omega
              obtain rfl : i = s.size := by omega
              have htk : s.data.toList.take s.size = s.data.toList := List.take_of_length_le (Nat.le_refl _)
              rw [htk] at Hj Hk
              have hbl : (escL s.data.toList).length = s.size + m := by rw [HL.out, hsl, ← Hm.out]
              have hcv := run_convert_bytes_back (P := Tryz.prog) wr 115 9 5 ⟨W1.heap.size, 0, none⟩ (s.size + m) (escL s.data.toList) Tryz.underlying115 Tryz.underlying5 Tryz.underlying9 (by
                intro q hq
                rw [addr_add, Lib.cell_of_heap Hk.out, bufC_full _ _ hbl, List.getElem?_toArray]
                unfold Lib.byteCells
                rw [List.getElem?_map, List.getElem?_eq_getElem hq]
                rfl)
              rw [hbl] at hcv
              have HW2 := Lib.hid Hw.out
              clear hbl htk Hj
              go_wp2
              go_ret
              refine ⟨rfl, ?_⟩
              have z1 : W1.heap.size = w.heap.size := by rw [Hw.out]; rfl
              have hb0 : Below w.heap.size w W1 := by rw [Hw.out]; exact below_drewN (Below.refl _ _) nd
              exact hb0.trans (HB.out.mono (by omega))
end Go.Proofs.YtmkfeanggmjhmaaGreat.Rp

/- Walks: strings.NewReplacer, its Replace; how a token is spelled. -/
namespace Go.Proofs.YtmkfeanggmjhmaaGreat.Rp
open Go Go.RowKit
set_option linter.unusedSimpArgs false
set_option linter.unusedVariables false

theorem tab_other {B bb k i : Nat} {done : List (Nat × Nat)} {w : World} {cs : Array Value} (T : Tab B bb done w) (hb : w.heap[k]? = some (.cells cs 111 (0, 0))) (v : Value) : Tab B bb done (w.setCell ⟨k, i, none⟩ v) := by
  obtain ⟨PA, u, h1, h2, h3, h4⟩ := T
  have e : ∀ j, j ≠ k → (w.setCell ⟨k, i, none⟩ v).heap[j]? = w.heap[j]? := fun j hj => heap_setCell_other w ⟨k, i, none⟩ j v hj
  refine ⟨PA, u, ?_, h2, own_keep h3 (fun j cur hj => e j (fun h => by subst h; rw [hb] at hj; cases hj)), fun c hc => ?_⟩
  · rw [e bb (fun h => by subst h; rw [hb] at h1; cases h1)]; exact h1
  · rcases h4 c hc with ⟨d, hm, g, cap, cur, fr, k1, k2, k3, k4⟩ | h
    · exact .inl ⟨d, hm, g, cap, cur, fr, k1, k2, by rw [e g (fun h => by subst h; rw [hb] at k3; cases k3)]; exact k3, k4⟩
    · exact .inr h
theorem tab_heap {B bb : Nat} {done : List (Nat × Nat)} {w w' : World} (T : Tab B bb done w) (h : w'.heap = w.heap) : Tab B bb done w' := by
  obtain ⟨PA, u, h1, h2, h3, h4⟩ := T
  refine ⟨PA, u, by rw [h]; exact h1, h2, own_keep h3 (fun j cur hj => by rw [h]), fun c hc => ?_⟩
  rcases h4 c hc with ⟨d, hm, g, cap, cur, fr, k1, k2, k3, k4⟩ | h'
  · exact .inl ⟨d, hm, g, cap, cur, fr, k1, k2, by rw [h]; exact k3, k4⟩
  · exact .inr h'
def six : List Value := [.string ⟨#[34]⟩, .string ⟨#[92, 34]⟩, .string ⟨#[92]⟩, .string ⟨#[92, 92]⟩, .string ⟨#[10]⟩, .string ⟨#[92, 110]⟩]
def repC (s : Value) : Array Value := #[.int .u32 0, .int .i32 0, .int .u32 0, .nilIface, s]

set_option maxRecDepth 100000 in
set_option maxHeartbeats 1000000 in
theorem New_calls (a : Nat) (w : World) (ha : w.heap[a]? = some (.cells six.toArray 9 (0, 0))) :
    Calls Tryz.prog 49 #[.slice (some ⟨a, 0, none⟩) 6 6] w fun e w' => ∃ b o c, e = .returned (.pointer (some ⟨b, 0, none⟩)) ∧ w'.heap[b]? = some (.cells (repC (.slice (some ⟨o, 0, none⟩) 6 c)) 111 (0, 0)) ∧ w.heap.size ≤ b ∧ o ≠ b ∧
      (∀ j, j < 6 → w'.cell? ⟨o, j, none⟩ = six[j]?) ∧ Below w.heap.size w w' := by
  obtain ⟨i0, hi, hz0, hz1, hz2⟩ := info_parts infoString
  have hc : ∀ j u, six[j]? = some u → w.cell? ((⟨a, 0, none⟩ : Addr).add j) = some u := fun j u hj => by rw [addr_add, Lib.cell_of_heap ha, List.getElem?_toArray]; exact hj
  have Hc := Lib.hid hc
  clear hc ha
  go_enter Tryz.func49, Tryz.ntmps49
  go_wp2_with (at_builtin; refine wpList_append_own _ rfl _ _ 22 rfl w.heap.size 9 i0 _ 1 16 Tryz.underlying22 hi hz0 hz1 hz2 rfl (by decide) _ _ _ rfl (World.ownsRow_nil _ _ _ _) ⟨a, 0, none⟩ 6 6 six rfl rfl Hc.out ?c2 ?c3 ?c4 ?c5 ?_)
  case c2 => intro u hu; simp [six] at hu; rcases hu with rfl | rfl | rfl | rfl | rfl | rfl <;> rfl
  case c3 => decide
  case c4 => decide
  case c5 => exact Nat.le_refl _
  intro v' w1 hown hgrow _
  obtain ⟨hlen, hown⟩ := hown
  rcases hown with ⟨_, h0⟩ | ⟨g, cap, cur, rfl, hg, hh, hcc, hm, hs, ht⟩
  · cases h0
  · have Hh := Lib.hid hh
    have Ht := Lib.hid ht
    clear hh ht hs hlen
    go_wp2
    go_ret
    have hb1 : Below w.heap.size w w1 := (Below.refl _ w).grown hgrow (Nat.le_refl _) (fun k hk => by simp [Value.ownBlock] at hk)
    refine ⟨w1.heap.size, g, cap, rfl, World.alloc_heap_new _ _, hb1.size, Nat.ne_of_lt (lt_heap Hh.out), fun j hj => ?_, hb1.alloc (by have := hb1.size; omega) _⟩
    have hg1 : g < w1.heap.size := lt_heap Hh.out
    rw [World.cell?_alloc_past _ _ _ hg1, Lib.cell_of_heap Hh.out, ← Array.getElem?_toList]
    have e : cur.toList.take 6 = six := Ht.out
    have hi : cur.toList[j]? = (cur.toList.take 6)[j]? := by rw [List.getElem?_take, if_pos hj]
    rw [hi, e]

/-- the replacer's block, behind the first part of Once -/
structure Built (b : Nat) (w W : World) : Prop where
  cells : ∃ sem, W.heap[b]? = some (.cells #[.int .u32 0, .int .i32 1, sem, .iface 141 (.pointer (some ⟨w.heap.size + 1, 0, none⟩)), .slice none 0 0] 111 (0, 0))
  tab : Tab w.heap.size (w.heap.size + 1) full W
  keep : ∀ k, k < w.heap.size → k ≠ b → W.heap[k]? = w.heap[k]?
  os : W.os = w.os
  tape : W.tape = w.tape
  output : W.output = w.output
  size : w.heap.size ≤ W.heap.size
theorem Built.cell {b : Nat} {w W : World} (h : Built b w W) : W.cell? ⟨b, 0, none⟩ = some (.int .u32 0) ∧ W.cell? ⟨b, 1, none⟩ = some (.int .i32 1) ∧ W.frozen? ⟨b, 0, none⟩ = false ∧ W.frozen? ⟨b, 1, none⟩ = false := by
  obtain ⟨sem, hc⟩ := h.cells
  exact ⟨by rw [Lib.cell_of_heap hc]; rfl, by rw [Lib.cell_of_heap hc]; rfl, Lib.frozen_of_heap hc _, Lib.frozen_of_heap hc _⟩

set_option maxRecDepth 100000 in
set_option maxHeartbeats 1000000 in
theorem buildOnce_calls (b o c : Nat) (w : World) (hb : w.heap[b]? = some (.cells #[.int .u32 0, .int .i32 1, .int .u32 0, .nilIface, .slice (some ⟨o, 0, none⟩) 6 c] 111 (0, 0))) (hs : ∀ j, j < 6 → w.cell? ⟨o, j, none⟩ = six[j]?) :
    Calls Tryz.prog 74 #[.pointer (some ⟨b, 0, none⟩)] w fun e w' => e = .returned (.tuple #[]) ∧ Built b w w' := by
  have hbl := lt_heap hb
  have HB := Lib.hid (build_calls b o c w (by rw [Lib.cell_of_heap hb]; rfl) (hs 0 (by decide)) (hs 1 (by decide)) (hs 2 (by decide)) (hs 3 (by decide)) (hs 4 (by decide)) (hs 5 (by decide)))
  clear hs
  have Hb := Lib.hid hb
  clear hb
  go_enter Tryz.func74, Tryz.ntmps74
  go_wp2_with fail
  refine HB.out.mono ?_
  rintro e w1 ⟨rfl, hb1, hT⟩
  have hc1 := (hb1.block b hbl).trans Hb.out
  have c3 : w1.cell? ⟨b, 3, none⟩ = some .nilIface := by rw [Lib.cell_of_heap hc1]; rfl
  have c4 : w1.cell? ⟨b, 4, none⟩ = some (.slice (some ⟨o, 0, none⟩) 6 c) := by rw [Lib.cell_of_heap hc1]; rfl
  have f3 : w1.frozen? ⟨b, 3, none⟩ = false := Lib.frozen_of_heap hc1 _
  have f4 : w1.frozen? ⟨b, 4, none⟩ = false := Lib.frozen_of_heap hc1 _
  have Hc1 := Lib.hid hc1
  have HT := Lib.hid hT
  clear hc1 hT
  go_wp2
  go_end0
  have d1 := heap_setCell_same w1 b 3 _ 111 (.iface 141 (.pointer (some ⟨w.heap.size + 1, 0, none⟩))) Hc1.out
  have d2 := heap_setCell_same _ b 4 _ 111 (.slice none 0 0) d1
  refine ⟨rfl, ⟨_, d2⟩, tab_other (tab_other HT.out Hc1.out _) d1 _, fun k hk hkb => ?_, hb1.os, hb1.tape, hb1.output, by simpa using hb1.size⟩
  rw [heap_setCell_other _ ⟨b, 4, none⟩ k _ hkb, heap_setCell_other _ ⟨b, 3, none⟩ k _ hkb]
  exact hb1.block k hk

theorem Built.once {b : Nat} {w W : World} (h : Built b w W) : (onceEnd b W).cell? ⟨b, 3, none⟩ = some (.iface 141 (.pointer (some ⟨w.heap.size + 1, 0, none⟩))) ∧ Tab w.heap.size (w.heap.size + 1) full (onceEnd b W) ∧ (∀ k, k < w.heap.size → k ≠ b → (onceEnd b W).heap[k]? = w.heap[k]?) ∧
    (onceEnd b W).os = w.os ∧ (onceEnd b W).tape = w.tape ∧ (onceEnd b W).output = w.output ∧ w.heap.size ≤ (onceEnd b W).heap.size := by
  obtain ⟨sem, hc⟩ := h.cells
  have hd : W.drew.heap[b]? = _ := hc
  have d1 := heap_setCell_same W.drew b 0 _ 111 (.int .u32 1) hd
  have d2 := heap_setCell_same _ b 1 _ 111 (.int .i32 0) d1
  refine ⟨by unfold onceEnd; rw [Lib.cell_of_heap d2]; rfl, ?_, fun k hk hkb => ?_, h.os, h.tape, h.output, ?_⟩
  · exact tab_other (tab_other (tab_heap h.tab rfl) hd _) d1 _
  · unfold onceEnd
    rw [heap_setCell_other _ ⟨b, 1, none⟩ k _ hkb, heap_setCell_other _ ⟨b, 0, none⟩ k _ hkb]
    exact h.keep k hk hkb
  · unfold onceEnd
    rw [World.size_setCell, World.size_setCell]
    exact h.size
theorem method_replace (v : Value) (w : World) : (method 307 141 v "Replace").run Tryz.prog w = .ok (147, v) w := by kernel_rfl
set_option maxRecDepth 100000 in
set_option maxHeartbeats 1000000 in
theorem Replacer_Replace_calls (b o c : Nat) (w : World) (hb : w.heap[b]? = some (.cells (repC (.slice (some ⟨o, 0, none⟩) 6 c)) 111 (0, 0))) (hs : ∀ j, j < 6 → w.cell? ⟨o, j, none⟩ = six[j]?) (hob : o ≠ b) (s : ByteArray) (hss : s.size ≤ 1000000) (B : Nat) (hB : B ≤ b) (hBw : B ≤ w.heap.size) :
    Calls Tryz.prog 50 #[.pointer (some ⟨b, 0, none⟩), .string s] w fun r w' => r = .returned (.string ⟨(escL s.data.toList).toArray⟩) ∧ Below B w w' := by
  have hmf : ∀ (fn : Fn) (first cap : Array Value) (w : World), (Instr.makeFunc fn first cap).run Tryz.prog w = .ok (.func fn first cap) w := fun _ _ _ _ => rfl
  have hbl := lt_heap hb
  have e1 := heap_setCell_same w b 1 _ 111 (.int .i32 1) hb
  have hz : (w.setCell ⟨b, 1, none⟩ (.int .i32 1)).heap.size = w.heap.size := by simp
  have HO := Lib.hid (buildOnce_calls b o c (w.setCell ⟨b, 1, none⟩ (.int .i32 1)) e1 (fun j hj => by
    rw [World.cell?_setCell_other _ _ _ _ (by intro h; exact hob (congrArg Addr.block h).symm)]; exact hs j hj))
  have HD := Lib.hid (do_calls b w (by rw [Lib.cell_of_heap hb]; rfl) (by rw [Lib.cell_of_heap hb]; rfl) (Lib.frozen_of_heap hb _) (Lib.frozen_of_heap hb _) (Built b (w.setCell ⟨b, 1, none⟩ (.int .i32 1))) (fun W h => h.cell) HO.out)
  clear HO e1 hs
  have Hb := Lib.hid hb
  clear hb
  go_enter Tryz.func50, Tryz.ntmps50
  go_wp2_with fail
  refine HD.out.mono ?_
  rintro e w1 ⟨rfl, W, hW, rfl⟩
  obtain ⟨k1, k2, k3, k4, k5, k6, k7⟩ := hW.once
  rw [hz] at k1 k2
  have HR := Lib.hid (Replace_calls _ _ _ k2 s hss)
  have hbw : Below B w (onceEnd b W) := ⟨k4, k5, k6, by rw [hz] at k7; exact k7, fun k hk => by rw [k3 k (by rw [hz]; omega) (by omega)]; exact heap_setCell_other w ⟨b, 1, none⟩ k _ (by show k ≠ b; omega)⟩
  have Hbw := Lib.hid hbw
  clear hW k2 k3 k4 k5 k6 hbw
  rw [hz] at k7
  generalize onceEnd b W = W2 at k1 k7 HR Hbw
  have hmt := method_replace
  go_wp2_with (go_at_call 147; refine HR.out.mono ?_; rintro e w3 ⟨rfl, hb3⟩)
  go_ret
  exact ⟨rfl, Hbw.out.trans (hb3.mono (by omega))⟩

def opened : List UInt8 := [92, 60, 111, 112, 101, 110, 62]
def closed : List UInt8 := [92, 60, 99, 108, 111, 115, 101, 62]
/-- how a token of a kind is written -/
def spell (k : Int) (t : ByteArray) : ByteArray :=
  if k = 9 then ⟨(opened ++ t.data.toList ++ closed).toArray⟩ else if k = 8 then ⟨(34 :: escL t.data.toList ++ [34]).toArray⟩ else t
theorem cat_list (a b : List UInt8) : (⟨a.toArray⟩ : ByteArray) ++ ⟨b.toArray⟩ = ⟨(a ++ b).toArray⟩ := by
  apply ByteArray.ext
  apply Array.ext'
  simp

set_option maxRecDepth 100000 in
set_option maxHeartbeats 2000000 in
theorem spelled_calls (k : Int) (t : ByteArray) (p : Int) (w : World) (ht : t.size ≤ 1000000) :
    Calls Tryz.prog 37 #[.agg #[.int .i64 k, .string t, .int .i64 p]] w fun r w' => r = .returned (.string (spell k t)) ∧ Below w.heap.size w w' := by
  by_cases h9 : k = 9
  · subst h9
    have hsp : spell 9 t = ⟨#[92, 60, 111, 112, 101, 110, 62]⟩ ++ t ++ ⟨#[92, 60, 99, 108, 111, 115, 101, 62]⟩ := by
      unfold spell
      rw [if_pos rfl]
      have e : t = ⟨t.data.toList.toArray⟩ := rfl
      rw [e]
      exact (by rw [show (⟨#[92, 60, 111, 112, 101, 110, 62]⟩ : ByteArray) = ⟨opened.toArray⟩ from rfl, show (⟨#[92, 60, 99, 108, 111, 115, 101, 62]⟩ : ByteArray) = ⟨closed.toArray⟩ from rfl, cat_list, cat_list])
    rw [hsp]
    clear hsp
    go_enter Tryz.func37, Tryz.ntmps37
    go_wp2
    go_ret
    exact ⟨rfl, (Below.refl _ w).alloc (Nat.le_refl _) _⟩
  · have g9 : (k == 9) = false := by simpa using h9
    by_cases h8 : k = 8
    · subst h8
      have hsp : spell 8 t = ⟨#[34]⟩ ++ ⟨(escL t.data.toList).toArray⟩ ++ ⟨#[34]⟩ := by
        unfold spell
        rw [if_neg (by decide), if_pos rfl]
        rw [show (⟨#[34]⟩ : ByteArray) = ⟨[(34 : UInt8)].toArray⟩ from rfl, cat_list, cat_list]
        rfl
      rw [hsp]
      clear hsp
      have HN := Lib.hid (fun (W : World) (h : W.heap[w.heap.size + 1]? = some (.cells six.toArray 9 (0, 0))) => New_calls (w.heap.size + 1) W h)
      go_enter Tryz.func37, Tryz.ntmps37
      go_wp2
      have hel : (⟨(escL t.data.toList).toArray⟩ : ByteArray).size ≤ 2000000 := by
        have h1 := escL_len t.data.toList
        have h2 := cnt_le t.data.toList
        have h3 : t.data.toList.length = t.size := rfl
        simp only [ByteArray.size, List.size_toArray]
        omega
      generalize hG : (⟨(escL t.data.toList).toArray⟩ : ByteArray) = G at hel
      have HG := Lib.hid hG
      clear hG
      go_region_with (first
        | (go_at_call 49; refine (HN.out _ ?_).mono ?_; (exact heap_alloc2_new _ _ _); rintro e w1 ⟨b, o, c, rfl, hb, hbb, hob, hs, hbel⟩; have hld := (hbel.cell (p := ⟨w.heap.size, 1, none⟩) (by simp; omega)).trans (Lib.cell_of_heap (heap_alloc2_old w _ _) 1); have HH := Lib.hid (And.intro hb (And.intro hbb (And.intro hob (And.intro hs hbel)))); clear hb hbb hob hs hbel)
        | (go_at_call 50; refine (Replacer_Replace_calls _ _ _ _ HH.out.1 HH.out.2.2.2.1 HH.out.2.2.1 t ht w.heap.size (by have := HH.out.2.1; simp at this; omega) (by have := HH.out.2.2.2.2.size; simp at this; omega)).mono ?_; rintro e w2 ⟨rfl, hb2⟩; rw [HG.out]))
      all_goals
        go_wp2
        go_ret
        have hz := HH.out.2.2.2.2
        have h0 : Below w.heap.size w ((w.alloc (.cells #[.int .i64 8, .string t, .int .i64 p] 30)).alloc (.cells six.toArray 9)) := ((Below.refl _ w).alloc (Nat.le_refl _) _).alloc (by simp) _
        have h0' : Below w.heap.size w ((w.alloc (.cells #[.int .i64 8, .string t, .int .i64 p] 30)).alloc (.cells six.toArray 9)).drew := ⟨h0.os, h0.tape, h0.output, h0.size, h0.block⟩
        exact ⟨by rw [HG.out]; rfl, (h0'.trans (hz.mono (by simp; omega))).trans hb2⟩
    · have g8 : (k == 8) = false := by simpa using h8
      have hsp : spell k t = t := by unfold spell; rw [if_neg h9, if_neg h8]
      rw [hsp]
      clear hsp
      go_enter Tryz.func37, Tryz.ntmps37
      go_wp2
      go_ret
      exact ⟨rfl, (Below.refl _ w).alloc (Nat.le_refl _) _⟩
end Go.Proofs.YtmkfeanggmjhmaaGreat.Rp

/- Walks: Scan; whether keywords and a text are few; whether the scanner answers at all. -/
namespace Go.Proofs.YtmkfeanggmjhmaaGreat.S
open Go Go.RowKit Go.Shelf Go.Proofs.YtmkfeanggmjhmaaGreatW.PrintWords Go.Proofs.YtmkfeanggmjhmaaGreatW.PrintLast Go.Proofs.YtmkfeanggmjhmaaGreatW.PrintMore
open Go.Proofs.YtmkfeanggmjhmaaGreat.M Go.Proofs.YtmkfeanggmjhmaaGreat.K
set_option linter.unusedSimpArgs false
set_option linter.unusedVariables false

/-- the keywords as a set -/
def kwp (l : List ByteArray) (t : List UInt8) : Bool := l.any (fun x => t == x.data.toList)
/-- what Scan returns: tokens, a place, an error -/
def scanAll (l : List ByteArray) (s : ByteArray) : List Tok × Nat × Int :=
  if checkE l ≠ 0 then ([], 0, checkE l) else if 40000 < s.size then ([], 0, 7) else
    match scanE (kwp l) s with
    | (xs, none) => (xs, 0, 0)
    | (_, some (q, c)) => ([], q, c)

def TokRow (w : World) (base : Nat) (v : Value) (xs : List Tok) : Prop := w.ownsRow base 30 3 v xs.length (xs.flatMap tokCells)

theorem TokRow.nil (w : World) (base : Nat) : TokRow w base (.slice none 0 0) [] := World.ownsRow_nil _ _ _ _
def ScanAllEnd (R : List Tok × Nat × Int) (w : World) (r : Ending) (w' : World) : Prop :=
  ∃ v, r = .returned (.tuple #[v, .int .i64 R.2.1, .int .i64 R.2.2]) ∧ TokRow w' w.heap.size v R.1 ∧ Below w.heap.size w w'

set_option maxHeartbeats 1000000 in
theorem Scan_calls (A : Option Addr) (c : Nat) (l : List ByteArray) (hl : ∀ x ∈ l, x.size ≤ 1000000000000) (hc : l.length ≤ c) (s : ByteArray) (w : World) (hr : Kd.C Kd.string w A l.length l) :
    Calls Tryz.prog 8 #[.slice A l.length c, .string s] w (ScanAllEnd (scanAll l s) w) := by
  have HW := Lib.hid (words_calls A c l hl hc w hr)
  clear hl hc hr
  generalize hR : scanAll l s = R
  unfold scanAll at hR
  unfold WordsEnd at HW
  generalize hE : checkE l = E at HW hR
  clear hE
  by_cases hE0 : E = 0
  · subst hE0
    rw [if_neg (by decide)] at hR
    by_cases hbig : 40000 < s.size
    · rw [if_pos hbig] at hR
      subst hR
      have g : (40000 : Int) < (s.size : Int) := by omega
      clear hbig
      go_enter Tryz.func8, Tryz.ntmps8
      go_wp2_with (go_at_call 20; refine HW.out.mono ?_; rintro e w' ⟨rfl, _, hb⟩; simp only [if_true])
      go_ret3
      exact ⟨_, rfl, TokRow.nil _ _, hb⟩
    · rw [if_neg hbig] at hR
      have g : ¬ (40000 : Int) < (s.size : Int) := by omega
      have hsz : s.size ≤ 1000000000 := by omega
      have HS := Lib.hid (fun bm n w hk => scan_calls bm n (kwp l) s w hk hsz)
      have HR := Lib.hid hR
      clear hbig hR hsz
      go_enter Tryz.func8, Tryz.ntmps8
      go_wp2_with fail
      refine HW.out.mono ?_
      rintro e w' ⟨rfl, hk, hb⟩
      have HK := Lib.hid (hk trivial)
      clear hk
      simp only [if_true]
      go_wp2_with fail
      refine (HS.out _ _ _ HK.out).mono ?_
      rintro e w2 ⟨v, xs, q, c2, rfl, ho, hsc, hb2⟩
      obtain ⟨A2, cp, rfl⟩ := own_slice ho
      have HO := Lib.hid ho
      have HC := Lib.hid hsc
      clear ho hsc
      go_wp2
      go_ret3
      have hb3 := hb2.mono hb.size
      rcases HC.out with ⟨h1, rfl, rfl⟩ | ⟨pre, q', h1, rfl, rfl⟩
      · have h2 := HR.out
        rw [h1] at h2
        simp only at h2
        subst h2
        exact ⟨_, rfl, own_weaken HO.out hb.size, hb.trans hb3⟩
      · have h2 := HR.out
        rw [h1] at h2
        simp only at h2
        subst h2
        exact ⟨_, rfl, own_weaken HO.out hb.size, hb.trans hb3⟩
  · rw [if_pos hE0] at hR
    subst hR
    have g : (E == 0) = false := by simpa using hE0
    have g' : (E != 0) = true := by simpa using hE0
    rw [if_neg hE0] at HW
    clear hE0
    go_enter Tryz.func8, Tryz.ntmps8
    go_wp2_with (go_at_call 20; refine HW.out.mono ?_; rintro e w' ⟨rfl, _, hb⟩)
    go_ret3
    exact ⟨_, rfl, TokRow.nil _ _, hb⟩
end Go.Proofs.YtmkfeanggmjhmaaGreat.S

/- Walks: whether keywords and a text are few; whether the scanner answers at all. -/
namespace Go.Proofs.YtmkfeanggmjhmaaGreat.S
open Go Go.RowKit Go.Shelf Go.Proofs.YtmkfeanggmjhmaaGreatW.PrintWords Go.Proofs.YtmkfeanggmjhmaaGreatW.PrintLast Go.Proofs.YtmkfeanggmjhmaaGreatW.PrintMore
open Go.Proofs.YtmkfeanggmjhmaaGreat.M Go.Proofs.YtmkfeanggmjhmaaGreat.K
set_option linter.unusedSimpArgs false
set_option linter.unusedVariables false

theorem Few1_calls (s : ByteArray) (w : World) :
    Calls Tryz.prog 19 #[.string s] w fun r w' => r = .returned (.bool (decide (60 < s.size))) ∧ w' = w := by
  by_cases h : 60 < s.size
  · have g : (60 : Int) < (s.size : Int) := by omega
    rw [decide_eq_true h]
    go_enter Tryz.func19, Tryz.ntmps19
    go_wp2
    go_ret
    exact ⟨rfl, rfl⟩
  · have g : ¬ (60 : Int) < (s.size : Int) := by omega
    rw [decide_eq_false h]
    go_enter Tryz.func19, Tryz.ntmps19
    go_wp2
    go_ret
    exact ⟨rfl, rfl⟩

theorem IndexFunc_calls (A : Option Addr) (c : Nat) (l : List ByteArray) (hc : l.length ≤ c) (w : World) (hr : Kd.C Kd.string w A l.length l) (hl : l.length ≤ 1000000000000) :
    Calls Tryz.prog 33 #[.slice A l.length c, .func (.func 19) #[] #[]] w fun r w' =>
      (∃ i : Int, r = .returned (.int .i64 i) ∧ (decide (0 ≤ i) = l.any (fun x => decide (60 < x.size)))) ∧ w' = w := by
  have Hr := Lib.hid hr
  clear hr
  generalize hB : l.any (fun x => decide (60 < x.size)) = B
  have HB := Lib.hid hB
  clear hB
  go_enter Tryz.func33, Tryz.ntmps33
  go_wp2
  go_loopg [8] l.length (fun gg v wr => ∃ k : Nat, v = .int .i64 k ∧ k ≤ l.length ∧ l.length - k ≤ gg ∧ Hid ((l.drop k).any (fun x => decide (60 < x.size)) = B) ∧ wr = w)
  case atStart => exact ⟨0, rfl, by omega, by omega, by simpa using HB, rfl⟩
  case round =>
    obtain ⟨k, rfl, hk, hg, HL, rfl⟩ := hrel
    by_cases hlt : k < l.length
    · have hltz : (k : Int) < (l.length : Int) := by omega
      obtain ⟨ad, rfl, hcell⟩ := str_at Hr.out k hlt
      have Hd : Hid (l.drop k = (l[k]'hlt) :: l.drop (k + 1)) := List.drop_eq_getElem_cons hlt
      generalize l[k]'hlt = x at hcell Hd
      have HF := Lib.hid (fun w => Few1_calls x w)
      rw [Hd.out, List.any_cons] at HL
      by_cases h60 : 60 < x.size
      · rw [decide_eq_true h60] at HF HL
        rw [Bool.true_or] at HL
        obtain rfl := HL.out
        clear h60
        go_wp2_with (go_at_call 19; refine (HF.out _).mono ?_; rintro e w' ⟨rfl, rfl⟩)
        go_ret
        exact ⟨⟨_, rfl, by simp⟩, rfl⟩
      · rw [decide_eq_false h60] at HF HL
        rw [Bool.false_or] at HL
        clear h60
        go_wp2_with (go_at_call 19; refine (HF.out _).mono ?_; rintro e w' ⟨rfl, rfl⟩)
        go_roundg (l.length - (k + 1))
        case measure => omega
        case rel => exact ⟨k + 1, by go_num, by omega, Nat.le_refl _, HL, rfl⟩
    · have hltz : ¬ (k : Int) < (l.length : Int) := by omega
      have h0 := HL.out
      rw [List.drop_eq_nil_of_le (by omega)] at h0
      clear HL
      obtain rfl : false = B := by simpa using h0
      clear h0
      go_wp2
      go_ret
      exact ⟨⟨_, rfl, by simp⟩, rfl⟩

theorem ContainsFunc_calls (A : Option Addr) (c : Nat) (l : List ByteArray) (hc : l.length ≤ c) (w : World) (hr : Kd.C Kd.string w A l.length l) (hl : l.length ≤ 1000000000000) :
    Calls Tryz.prog 18 #[.slice A l.length c, .func (.func 19) #[] #[]] w fun r w' =>
      r = .returned (.bool (l.any (fun x => decide (60 < x.size)))) ∧ w' = w := by
  have HI := Lib.hid (IndexFunc_calls A c l hc w hr hl)
  clear hr
  generalize l.any (fun x => decide (60 < x.size)) = B at HI
  go_enter Tryz.func18, Tryz.ntmps18
  go_wp2_with fail
  refine HI.out.mono ?_
  rintro e w' ⟨⟨i, rfl, hi⟩, rfl⟩
  subst hi
  go_wp2
  go_ret
  exact ⟨rfl, rfl⟩

def fewB (most : Int) (l : List ByteArray) (s : ByteArray) : Bool := decide (l.length ≤ 20) && decide ((s.size : Int) ≤ most) && !(l.any (fun x => decide (60 < x.size)))
theorem Few_calls (most : Int) (A : Option Addr) (c : Nat) (l : List ByteArray) (hc : l.length ≤ c) (s : ByteArray) (w : World) (hr : Kd.C Kd.string w A l.length l) :
    Calls Tryz.prog 6 #[.int .i64 most, .slice A l.length c, .string s] w fun r w' => r = .returned (.bool (fewB most l s)) ∧ w' = w := by
  unfold fewB
  by_cases h20 : l.length ≤ 20
  · have HI := Lib.hid (ContainsFunc_calls A c l hc w hr (by omega))
    clear hr
    rw [decide_eq_true h20, Bool.true_and]
    have g20 : (l.length : Int) ≤ 20 := by omega
    generalize l.any (fun x => decide (60 < x.size)) = B at HI ⊢
    by_cases hm : (s.size : Int) ≤ most
    · rw [decide_eq_true hm, Bool.true_and]
      clear h20
      go_enter Tryz.func6, Tryz.ntmps6
      go_wp2_with (go_at_call 18; refine HI.out.mono ?_; rintro e w' ⟨rfl, rfl⟩)
      go_ret
      exact ⟨rfl, rfl⟩
    · rw [decide_eq_false hm, Bool.false_and]
      clear h20
      go_enter Tryz.func6, Tryz.ntmps6
      go_wp2
      go_ret
      exact ⟨rfl, rfl⟩
  · clear hr
    rw [decide_eq_false h20, Bool.false_and, Bool.false_and]
    have g20 : ¬ (l.length : Int) ≤ 20 := by omega
    clear h20
    go_enter Tryz.func6, Tryz.ntmps6
    go_wp2
    go_ret
    exact ⟨rfl, rfl⟩

theorem awake_calls (w : World) : Calls Tryz.prog 7 #[] w fun r w' => r = .returned (.bool true) ∧ Below w.heap.size w w' := by
  have HS := Lib.hid (Scan_calls none 0 [] (by simp) (Nat.le_refl _) ⟨#[97]⟩ w ⟨rfl, by decide, fun h => absurd h (by decide)⟩)
  have e : scanAll [] ⟨#[97]⟩ = ([⟨1, ⟨#[97]⟩, 0⟩], 0, 0) := by kernel_rfl
  rw [e] at HS
  clear e
  unfold ScanAllEnd at HS
  simp only at HS
  change Hid (Calls _ _ #[.slice none 0 0, _] _ _) at HS
  go_enter Tryz.func7, Tryz.ntmps7
  go_wp2_with fail
  refine HS.out.mono ?_
  rintro e w' ⟨v, rfl, ho, hb⟩
  obtain ⟨A2, cp, rfl⟩ := own_slice ho
  clear ho
  go_wp2
  go_ret
  exact ⟨rfl, hb⟩
end Go.Proofs.YtmkfeanggmjhmaaGreat.S

/- Reading a part of a text: what is read inside a beginning of a text is what is read in the text.  It names no program. -/
namespace Go.Proofs.YtmkfeanggmjhmaaGreat.Q
set_option linter.unusedSimpArgs false
set_option linter.unusedVariables false
open Go Go.RowKit Go.Proofs.YtmkfeanggmjhmaaGreatW.PrintWords Go.Proofs.YtmkfeanggmjhmaaGreat.M

theorem bt_opt (s : ByteArray) (i : Nat) : bt s (i : Int) = ((s.data.toList[i]?).map (fun x => (x.toNat : Int))).getD 0 := by
  unfold bt
  by_cases h : i < s.size
  · have h' : i < s.data.toList.length := h
    rw [dif_pos (by simpa using h), List.getElem?_eq_getElem h']
    rfl
  · have h' : s.data.toList.length ≤ i := by have : s.data.toList.length = s.size := rfl; omega
    rw [dif_neg (by simpa using h), List.getElem?_eq_none h']
    rfl

/-- a is a beginning of s -/
structure Pre (a s : ByteArray) : Prop where
  le : a.size ≤ s.size
  bt : ∀ i : Nat, i < a.size → bt s (i : Int) = bt a (i : Int)
  at_ : ∀ i t, i + t.length ≤ a.size → preAt s i t = preAt a i t
  up : ∀ i t, preAt a i t = true → preAt s i t = true
  ext : ∀ i j, j ≤ a.size → s.extract i j = a.extract i j
theorem size_len (a : ByteArray) : a.data.toList.length = a.size := rfl
theorem pre_short {t x r : List UInt8} (hl : t.length ≤ x.length) (h : t <+: x ++ r) : t <+: x := List.prefix_of_prefix_length_le h (List.prefix_append x r) hl
theorem pre_cross {c : UInt8} {y : List UInt8} : ∀ (t x : List UInt8), t <+: x ++ c :: y → c ∉ t → t <+: x
  | [], x, _, _ => List.nil_prefix
  | u :: t, [], h, hc => by
    rw [List.nil_append] at h
    have := (List.cons_prefix_cons.1 h).1
    subst this
    simp at hc
  | u :: t, v :: x, h, hc => by
    rw [List.cons_append] at h
    have h2 := List.cons_prefix_cons.1 h
    exact List.cons_prefix_cons.2 ⟨h2.1, pre_cross t x h2.2 (fun hm => hc (List.mem_cons_of_mem _ hm))⟩
theorem bool_eq {a b : Bool} (h : a = true ↔ b = true) : a = b := by cases a <;> cases b <;> simp_all
theorem ext_list (s : ByteArray) (i j : Nat) : (s.extract i j).data.toList = (s.data.toList.drop i).take (j - i) := by
  rw [ByteArray.data_extract, Array.toList_extract, List.extract_eq_take_drop]
theorem ba_ext {x y : ByteArray} (h : x.data.toList = y.data.toList) : x = y := by
  apply ByteArray.ext
  exact Array.ext' h
theorem Pre.mk' {a s : ByteArray} {r : List UInt8} (h : s.data.toList = a.data.toList ++ r) : Pre a s where
  le := by rw [← size_len, ← size_len, h, List.length_append]; omega
  bt := fun i hi => by rw [bt_opt, bt_opt, h, List.getElem?_append_left (by rw [size_len]; exact hi)]
  at_ := fun i t hi => by
    apply bool_eq
    unfold preAt
    rw [List.isPrefixOf_iff_prefix, List.isPrefixOf_iff_prefix, h, List.drop_append_of_le_length (by rw [size_len]; omega)]
    exact ⟨fun hp => pre_short (by rw [List.length_drop, size_len]; omega) hp, fun hp => hp.trans (List.prefix_append _ _)⟩
  up := fun i t hp => by
    unfold preAt at *
    rw [List.isPrefixOf_iff_prefix] at *
    rw [h, List.drop_append]
    exact hp.trans (List.prefix_append _ _)
  ext := fun i j hj => by
    apply ba_ext
    rw [ext_list, ext_list, h]
    by_cases hi : i ≤ j
    · rw [List.drop_append_of_le_length (by rw [size_len]; omega), List.take_append_of_le_length (by rw [List.length_drop, size_len]; omega)]
    · rw [show j - i = 0 by omega, List.take_zero, List.take_zero]

variable {a s : ByteArray}
theorem whileT (H : Pre a s) (p : Int → Bool) : ∀ d i, a.size - i ≤ d → i ≤ a.size → whileE p a i = min (whileE p s i) a.size
  | 0, i, hd, hi => by
    obtain rfl : i = a.size := by omega
    rw [whileE_end p a _ (Nat.le_refl _)]
    have := whileE_ge p s a.size
    omega
  | d + 1, i, hd, hi => by
    have hle := H.le
    by_cases hlt : i < a.size
    · cases hp : p (bt a (i : Int)) with
      | true => rw [whileE_hit p a i hlt hp, whileE_hit p s i (by omega) (by rw [H.bt i hlt]; exact hp)]; exact whileT H p d (i + 1) (by omega) (by omega)
      | false => rw [whileE_miss p a i hlt hp, whileE_miss p s i (by omega) (by rw [H.bt i hlt]; exact hp)]; omega
    · obtain rfl : i = a.size := by omega
      rw [whileE_end p a _ (Nat.le_refl _)]
      have := whileE_ge p s a.size
      omega
theorem while_min (H : Pre a s) (p : Int → Bool) {i : Nat} (hi : i ≤ a.size) : whileE p a i = min (whileE p s i) a.size := whileT H p _ i (Nat.le_refl _) hi
theorem ident_min (H : Pre a s) {i : Nat} (hi : i ≤ a.size) : identE a i = min (identE s i) a.size := by
  have hle := H.le
  by_cases hlt : i < a.size
  · unfold identE
    rw [if_pos hlt, if_pos (show i < s.size by omega), H.bt i hlt]
    cases hl : letterB (bt a (i : Int)) with
    | true => rw [if_pos rfl, if_pos rfl]; exact while_min H _ hi
    | false => rw [if_neg Bool.false_ne_true, if_neg Bool.false_ne_true]; omega
  · have := identE_ge s i
    have e : identE a i = i := by unfold identE; rw [if_neg hlt]
    omega
theorem namedT (H : Pre a s) {i : Nat} (hi : i ≤ a.size) (h : namedE s i ≤ a.size) : namedE a i = namedE s i := by
  have hle := H.le
  by_cases h2 : i + 2 ≤ a.size
  · have e := ident_min H h2
    have hp := H.at_ i [92, 60] h2
    unfold namedE at *
    rw [← hp]
    split
    · rename_i hpt
      rw [if_pos hpt] at h
      by_cases hf : identE s (i + 2) = i + 2 ∨ identE s (i + 2) = s.size ∨ bt s (identE s (i + 2) : Int) ≠ 62
      · rw [if_pos hf]
        rw [if_pos]
        rw [e]
        by_cases hn : identE s (i + 2) < a.size
        · rw [Nat.min_eq_left (by omega)]
          rcases hf with h1 | h1 | h1
          · exact .inl h1
          · omega
          · exact .inr (.inr (by rw [← H.bt _ hn]; exact h1))
        · rw [Nat.min_eq_right (by omega)]
          exact .inr (.inl rfl)
      · rw [if_neg hf] at h ⊢
        have hm : min (identE s (i + 2)) a.size = identE s (i + 2) := by omega
        rw [e, hm, if_neg]
        rintro (h1 | h1 | h1)
        · exact hf (.inl h1)
        · omega
        · exact hf (.inr (.inr (by rw [H.bt _ (by omega)]; exact h1)))
    · rfl
  · have ha : preAt a i [92, 60] = false := by
      rw [Bool.eq_false_iff]
      intro hp
      have := preAt_le hp hi
      simp at this
      omega
    have hs : namedE s i = i := by
      unfold namedE at *
      split
      · rename_i hp
        rw [if_pos hp] at h
        split
        · rfl
        · rename_i hf
          rw [if_neg hf] at h
          have := identE_ge s (i + 2)
          omega
      · rfl
    rw [hs]
    unfold namedE
    rw [ha]
    rfl
theorem indexT (H : Pre a s) {i : Nat} (hi : i ≤ a.size) (h : indexE s i ≤ a.size) : indexE a i = indexE s i := by
  have hle := H.le
  unfold indexE at *
  by_cases hlt : i < a.size
  · rw [if_pos (show i < s.size by omega), H.bt i hlt] at h ⊢
    rw [if_pos hlt] at *
    split
    · rename_i hd
      rw [if_pos hd] at h
      rw [while_min H _ (show i + 1 ≤ a.size by omega)]
      have := whileE_ge digitB s (i + 1)
      by_cases hw : i + 1 < whileE digitB s (i + 1)
      · rw [if_pos hw] at h ⊢
        rw [if_pos (by omega)]
        omega
      · rw [if_neg hw, if_neg (by omega)]
    · rfl
  · rw [if_neg hlt]
    by_cases hs : i < s.size
    · rw [if_pos hs] at h ⊢
      split
      · rename_i hd
        rw [if_pos hd] at h
        split
        · rename_i hw
          rw [if_pos hw] at h
          omega
        · rfl
      · rfl
    · rw [if_neg hs]
theorem wordT (H : Pre a s) : ∀ d k e, a.size - e ≤ d → e ≤ a.size → (wordE s k e).2 ≤ a.size → wordE a k e = wordE s k e := by
  intro d
  have hle := H.le
  induction d with
  | zero =>
    intro k e hd he h
    obtain rfl : e = a.size := by omega
    rw [wordE_end a k _ (Nat.le_refl _)]
    by_cases hs : a.size < s.size
    · by_cases hb : bt s (a.size : Int) = 46
      · by_cases hi : identE s (a.size + 1) = a.size + 1
        · rw [wordE_stop s k _ hs hi]
        · rw [wordE_step s k _ hs hb hi] at h
          have h1 := identE_ge s (a.size + 1)
          have h2 := identE_le s (a.size + 1) (by omega)
          have h3 := wordF_le s (s.size - identE s (a.size + 1)) 2 _ h2
          unfold wordE at h
          omega
      · rw [wordE_dot s k _ hs hb]
    · rw [wordE_end s k _ (by omega)]
  | succ d ih =>
    intro k e hd he h
    by_cases hlt : e < a.size
    · by_cases hb : bt a (e : Int) = 46
      · have hbs : bt s (e : Int) = 46 := by rw [H.bt e hlt]; exact hb
        have hm := ident_min H (show e + 1 ≤ a.size by omega)
        have hg := identE_ge s (e + 1)
        by_cases hi : identE s (e + 1) = e + 1
        · rw [wordE_stop s k e (by omega) hi, wordE_stop a k e hlt (by omega)]
        · rw [wordE_step s k e (by omega) hbs hi] at h ⊢
          have h2 := identE_le s (e + 1) (by omega)
          have h3 := wordF_le s (s.size - identE s (e + 1)) 2 _ h2
          have h4 : identE s (e + 1) ≤ a.size := by unfold wordE at h; omega
          rw [wordE_step a k e hlt hb (by omega), hm, Nat.min_eq_left h4]
          exact ih _ _ (by omega) h4 h
      · rw [wordE_dot a k e hlt hb, wordE_dot s k e (by omega) (by rw [H.bt e hlt]; exact hb)]
    · exact (by
        obtain rfl : e = a.size := by omega
        exact (ih k _ (by omega) he h))
theorem namesT (H : Pre a s) {i : Nat} (hi : i ≤ a.size) (h : (namesE s i).2 ≤ a.size) : namesE a i = namesE s i := by
  have hle := H.le
  have hm := ident_min H hi
  have hg := identE_ge s i
  have hl := identE_le s i (by omega)
  have h4 : identE s i ≤ a.size := by
    unfold namesE at h
    split at h
    · have h3 := wordF_le s (s.size - identE s i) 1 _ hl
      unfold wordE at h
      omega
    · exact h
  rw [Nat.min_eq_left h4] at hm
  unfold namesE at *
  rw [hm]
  split
  · rename_i hlt
    rw [if_pos hlt] at h
    exact wordT H _ _ _ (Nat.le_refl _) h4 h
  · rfl
theorem markT (H : Pre a s) {i : Nat} {m : List UInt8} (hi : i ≤ a.size) (h : ∀ e, markE s i m = some e → e ≤ a.size) : markE a i m = markE s i m := by
  have hle := H.le
  by_cases h2 : i + m.length ≤ a.size
  · have hm := ident_min H h2
    have hg := identE_ge s (i + m.length)
    unfold markE at *
    rw [← H.at_ i m h2]
    split
    · rename_i hp
      rw [if_pos hp] at h
      by_cases hlt : i + m.length < identE s (i + m.length)
      · have := h _ (if_pos hlt)
        rw [if_pos hlt, if_pos (by omega), hm, Nat.min_eq_left this]
      · rw [if_neg hlt, if_neg (by omega)]
    · rfl
  · have ha : markE a i m = none := by
      unfold markE
      rw [if_neg]
      intro hp
      have := preAt_le hp hi
      omega
    rw [ha]
    cases hs : markE s i m with
    | none => rfl
    | some e =>
      have h1 := h e hs
      unfold markE at hs
      split at hs
      · split at hs
        · cases hs
          omega
        · cases hs
      · cases hs
theorem markE_end {s : ByteArray} {i : Nat} {m : List UInt8} {e : Nat} (h : markE s i m = some e) (hi : i ≤ s.size) : e ≤ s.size := (markE_le hi h).2
theorem varsT (H : Pre a s) {i : Nat} (hi : i ≤ a.size) (h : (varsE s i).2 ≤ a.size) : varsE a i = varsE s i := by
  have hle := H.le
  have key : ∀ m, (∀ e, markE s i m = some e → e ≤ a.size) → markE a i m = markE s i m := fun m hm => markT H hi hm
  unfold varsE at *
  have ix : ∀ e, e ≤ s.size → e ≤ indexE s e := fun e he => (indexE_le s e he).1
  cases h1 : markE s i [39] with
  | some e =>
    rw [h1] at h
    rw [key _ (fun e' h' => by rw [h1] at h'; cases h'; exact h), h1]
  | none =>
    rw [h1] at h
    rw [key _ (fun e' h' => by rw [h1] at h'; cases h'), h1]
    cases h2 : markE s i [63, 39] with
    | some e =>
      rw [h2] at h
      have he : e ≤ a.size := Nat.le_trans (ix e (markE_end h2 (by omega))) h
      rw [key _ (fun e' h' => by rw [h2] at h'; cases h'; exact he), h2]
      simp only
      rw [indexT H he h]
    | none =>
      rw [h2] at h
      rw [key _ (fun e' h' => by rw [h2] at h'; cases h'), h2]
      cases h3 : markE s i [63] with
      | some e =>
        rw [h3] at h
        have he : e ≤ a.size := Nat.le_trans (ix e (markE_end h3 (by omega))) h
        rw [key _ (fun e' h' => by rw [h3] at h'; cases h'; exact he), h3]
        simp only
        rw [indexT H he h]
      | none =>
        rw [key _ (fun e' h' => by rw [h3] at h'; cases h'), h3]
theorem symT (H : Pre a s) {i : Nat} (hi : i < a.size) (h : symE s i ≤ a.size) : symE a i = symE s i := by
  have hle := H.le
  have h1 := namedE_ge s i
  have h2 := whileE_ge signB s i
  have hm : max (namedE s i) (runE s i) ≤ a.size := by
    unfold symE at h
    split at h
    · rename_i he; omega
    · exact h
  have hr : runE a i = runE s i := by
    unfold runE at *
    rw [while_min H _ (by omega), Nat.min_eq_left (by omega)]
  unfold symE at *
  rw [namedT H (by omega) (by omega), hr, H.bt i hi]
theorem readT (H : Pre a s) {i : Nat} (hi : i < a.size) (j : Nat) (h : (readE s i j).2 ≤ a.size) : readE a i j = readE s i j := by
  match j with
  | 0 => exact namesT H (by omega) h
  | 1 => exact varsT H (by omega) h
  | 2 =>
    change whileE digitB s i ≤ a.size at h
    show ((6 : Int), whileE digitB a i) = (6, whileE digitB s i)
    rw [while_min H _ (by omega), Nat.min_eq_left h]
  | _ + 3 =>
    change symE s i ≤ a.size at h
    show ((7 : Int), symE a i) = (7, symE s i)
    rw [symT H hi h]
end Go.Proofs.YtmkfeanggmjhmaaGreat.Q

/- Two texts with a blank between them have the tokens of both.  It names no program. -/
namespace Go.Proofs.YtmkfeanggmjhmaaGreat.Q
set_option linter.unusedSimpArgs false
set_option linter.unusedVariables false
open Go Go.RowKit Go.Proofs.YtmkfeanggmjhmaaGreatW.PrintWords Go.Proofs.YtmkfeanggmjhmaaGreat.M

/-- s is a, a byte that is part of no token, and b -/
structure Sep (a b s : ByteArray) (c : UInt8) : Prop where
  eq : s.data.toList = a.data.toList ++ c :: b.data.toList
  no : c = 10 ∨ c = 32
section
variable {a b s : ByteArray} {c : UInt8}
theorem Sep.pre (H : Sep a b s c) : Pre a s := Pre.mk' H.eq
theorem Sep.size (H : Sep a b s c) : s.size = a.size + 1 + b.size := by
  have := congrArg List.length H.eq
  rw [List.length_append, List.length_cons] at this
  have e1 : s.data.toList.length = s.size := rfl
  have e2 : a.data.toList.length = a.size := rfl
  have e3 : b.data.toList.length = b.size := rfl
  omega
theorem Sep.bt_n (H : Sep a b s c) : bt s (a.size : Int) = 10 ∨ bt s (a.size : Int) = 32 := by
  rw [bt_opt, H.eq, ← size_len, List.getElem?_append_right (Nat.le_refl _), Nat.sub_self]
  rcases H.no with rfl | rfl
  · exact .inl rfl
  · exact .inr rfl
theorem Sep.cross (H : Sep a b s c) {i : Nat} {t : List UInt8} (hi : i ≤ a.size) (h10 : (10 : UInt8) ∉ t) (h32 : (32 : UInt8) ∉ t) : preAt s i t = preAt a i t := by
  have hc : c ∉ t := by rcases H.no with rfl | rfl <;> assumption
  apply bool_eq
  refine ⟨fun h => ?_, H.pre.up i t⟩
  unfold preAt at *
  rw [List.isPrefixOf_iff_prefix] at *
  rw [H.eq, List.drop_append_of_le_length (by rw [size_len]; exact hi)] at h
  exact pre_cross _ _ h hc
theorem while_all (p : Int → Bool) (s : ByteArray) : ∀ d i k, s.size - i ≤ d → i ≤ k → k < whileE p s i → k < s.size → p (bt s (k : Int)) = true
  | 0, i, k, hd, hik, hk, hs => by omega
  | d + 1, i, k, hd, hik, hk, hs => by
    have hi : i < s.size := by omega
    cases hp : p (bt s (i : Int)) with
    | true =>
      by_cases he : i = k
      · subst he; exact hp
      · rw [whileE_hit p s i hi hp] at hk
        exact while_all p s d (i + 1) k (by omega) (by omega) hk hs
    | false => rw [whileE_miss p s i hi hp] at hk; omega
theorem whileP (H : Sep a b s c) {p : Int → Bool} (h10 : p 10 = false) (h32 : p 32 = false) {i : Nat} (hi : i ≤ a.size) : whileE p s i = whileE p a i ∧ whileE p s i ≤ a.size := by
  have hs := H.size
  have hle : whileE p s i ≤ a.size := by
    rcases Nat.lt_or_ge a.size (whileE p s i) with h | h
    · have := while_all p s _ i a.size (Nat.le_refl _) hi h (by omega)
      rcases H.bt_n with e | e
      · rw [e, h10] at this; cases this
      · rw [e, h32] at this; cases this
    · exact h
  exact ⟨by rw [while_min H.pre p hi]; omega, hle⟩
theorem identP (H : Sep a b s c) {i : Nat} (hi : i ≤ a.size) : identE s i = identE a i ∧ identE s i ≤ a.size := by
  have hs := H.size
  have hle : identE s i ≤ a.size := by
    unfold identE
    rw [if_pos (by omega)]
    split
    · exact (whileP H (by decide) (by decide) hi).2
    · exact hi
  exact ⟨by rw [ident_min H.pre hi]; omega, hle⟩
theorem namedP (H : Sep a b s c) {i : Nat} (hi : i ≤ a.size) : namedE s i = namedE a i ∧ namedE s i ≤ a.size := by
  have hs := H.size
  have hle : namedE s i ≤ a.size := by
    unfold namedE
    split
    · rename_i hp
      rw [H.cross hi (by decide) (by decide)] at hp
      have h2 := preAt_le hp hi
      simp only [List.length_cons, List.length_nil] at h2
      obtain ⟨e1, e2⟩ := identP H (i := i + 2) h2
      split
      · exact hi
      · rename_i hn
        have : identE s (i + 2) ≠ a.size := by
          intro e
          apply hn
          refine .inr (.inr ?_)
          rw [e]
          rcases H.bt_n with h | h <;> rw [h] <;> decide
        omega
    · exact hi
  exact ⟨(namedT H.pre hi hle).symm, hle⟩
theorem word_le (H : Sep a b s c) : ∀ d k e, a.size - e ≤ d → e ≤ a.size → (wordE s k e).2 ≤ a.size := by
  have hs := H.size
  have hn : ∀ k, (wordE s k a.size).2 ≤ a.size := fun k => by
    rw [wordE_dot s k a.size (by omega) (by rcases H.bt_n with h | h <;> rw [h] <;> decide)]
    exact Nat.le_refl _
  intro d
  induction d with
  | zero =>
    intro k e hd he
    obtain rfl : e = a.size := by omega
    exact hn k
  | succ d ih =>
    intro k e hd he
    by_cases hlt : e < a.size
    · by_cases hb : bt s (e : Int) = 46
      · obtain ⟨e1, e2⟩ := identP H (i := e + 1) (by omega)
        have hg := identE_ge s (e + 1)
        by_cases hi : identE s (e + 1) = e + 1
        · rw [wordE_stop s k e (by omega) hi]; exact he
        · rw [wordE_step s k e (by omega) hb hi]
          exact ih _ _ (by omega) e2
      · rw [wordE_dot s k e (by omega) hb]; exact he
    · obtain rfl : e = a.size := by omega
      exact hn k
theorem index_le (H : Sep a b s c) {i : Nat} (hi : i ≤ a.size) : indexE s i ≤ a.size := by
  have hs := H.size
  unfold indexE
  rw [if_pos (by omega)]
  split
  · rename_i hd
    have hlt : i < a.size := by
      rcases Nat.lt_or_ge i a.size with h | h
      · exact h
      · obtain rfl : i = a.size := by omega
        rcases H.bt_n with h | h <;> rw [h] at hd <;> cases hd
    have := (whileP H (p := digitB) (by decide) (by decide) (show i + 1 ≤ a.size by omega)).2
    split <;> omega
  · exact hi
theorem mark_le (H : Sep a b s c) {i : Nat} {m : List UInt8} (hi : i ≤ a.size) (h10 : (10 : UInt8) ∉ m) (h32 : (32 : UInt8) ∉ m) : ∀ e, markE s i m = some e → e ≤ a.size := by
  intro e h
  unfold markE at h
  split at h
  · rename_i hp
    rw [H.cross hi h10 h32] at hp
    have h2 := preAt_le hp hi
    have := (identP H (i := i + m.length) h2).2
    split at h
    · cases h; exact this
    · cases h
  · cases h
theorem vars_le (H : Sep a b s c) {i : Nat} (hi : i ≤ a.size) : (varsE s i).2 ≤ a.size := by
  unfold varsE
  cases h1 : markE s i [39] with
  | some e => exact mark_le H hi (by decide) (by decide) e h1
  | none =>
    cases h2 : markE s i [63, 39] with
    | some e => exact index_le H (mark_le H hi (by decide) (by decide) e h2)
    | none =>
      cases h3 : markE s i [63] with
      | some e => exact index_le H (mark_le H hi (by decide) (by decide) e h3)
      | none => exact hi
theorem read_le (H : Sep a b s c) {i : Nat} (hi : i < a.size) (j : Nat) : (readE s i j).2 ≤ a.size := by
  match j with
  | 0 =>
    show (namesE s i).2 ≤ a.size
    obtain ⟨e1, e2⟩ := identP H (i := i) (by omega)
    unfold namesE
    split
    · exact word_le H _ _ _ (Nat.le_refl _) e2
    · exact e2
  | 1 => exact vars_le H (by omega)
  | 2 => exact (whileP H (p := digitB) (by decide) (by decide) (by omega)).2
  | _ + 3 =>
    show symE s i ≤ a.size
    have h1 := (namedP H (i := i) (by omega)).2
    have h2 : runE s i ≤ a.size := (whileP H (p := signB) (by decide) (by decide) (by omega)).2
    unfold symE
    split
    · split <;> omega
    · omega
theorem bestP (H : Sep a b s c) {i : Nat} (hi : i < a.size) : ∀ j, bestE s i j = bestE a i j
  | 0 => rfl
  | j + 1 => by rw [bestE, bestE, bestP H hi j, ← readT H.pre hi j (read_le H hi j)]
theorem best_le (H : Sep a b s c) {i : Nat} (hi : i < a.size) : ∀ j, (bestE s i j).2 ≤ a.size
  | 0 => Nat.le_of_lt hi
  | j + 1 => by
    rw [bestE]
    split
    · exact read_le H hi j
    · exact best_le H hi j
theorem nestP (H : Sep a b s c) {x y : List UInt8} (hx : 0 < x.length) (hy : 0 < y.length) (n1 : (10 : UInt8) ∉ x) (n2 : (32 : UInt8) ∉ x) (n3 : (10 : UInt8) ∉ y) (n4 : (32 : UInt8) ∉ y) :
    ∀ d i deep j, a.size - i ≤ d → nestE a x y i deep = some j → nestE s x y i deep = some j := by
  have hs := H.size
  have none_end : ∀ i deep j, a.size ≤ i → nestE a x y i deep = some j → False := fun i deep j hi h => by
    rw [nestE_end a x y i deep hi] at h; cases h
  intro d
  induction d with
  | zero => intro i deep j hd h; exact (none_end i deep j (by omega) h).elim
  | succ d ih =>
    intro i deep j hd h
    by_cases hi : i < a.size
    · have ew : stepW s x y i = stepW a x y i := by unfold stepW; rw [H.cross (by omega) n1 n2, H.cross (by omega) n3 n4]
      have ed : stepD s x y i = stepD a x y i := by unfold stepD; rw [H.cross (by omega) n1 n2, H.cross (by omega) n3 n4]
      have hp := stepW_pos a x y i hx hy
      by_cases h0 : deep + stepD a x y i = 0
      · rw [nestE_stop a x y i deep hi h0] at h
        rw [nestE_stop s x y i deep (by omega) (by rw [ed]; exact h0), ew]
        exact h
      · rw [nestE_step a x y hx hy i deep hi h0] at h
        rw [nestE_step s x y hx hy i deep (by omega) (by rw [ed]; exact h0), ew, ed]
        exact ih _ _ _ (by omega) h
    · exact (none_end i deep j (by omega) h).elim
theorem textP (H : Sep a b s c) : ∀ d i out r, a.size - i ≤ d → textE a i out = some r → textE s i out = some r := by
  have hs := H.size
  intro d
  induction d with
  | zero =>
    intro i out r hd h
    rw [textE_end a i out (by omega)] at h; cases h
  | succ d ih =>
    intro i out r hd h
    by_cases hi : i < a.size
    · rw [textE_eq a i out hi] at h
      rw [textE_eq s i out (by omega), H.pre.bt i hi]
      split at h
      · cases h
      · rename_i h1
        rw [if_neg h1]
        split at h
        · rename_i h2
          rw [if_pos h2]
          exact h
        · rename_i h2
          rw [if_neg h2]
          split at h
          · rename_i h3
            rw [if_pos h3]
            split at h
            · rename_i h4
              rw [if_pos (by omega), H.pre.bt (i + 1) h4]
              split at h
              · rename_i h5
                rw [if_pos h5]
                exact ih _ _ _ (by omega) h
              · rename_i h5
                rw [if_neg h5]
                split at h
                · rename_i h6
                  rw [if_pos h6]
                  exact ih _ _ _ (by omega) h
                · cases h
            · cases h
          · rename_i h3
            rw [if_neg h3]
            exact ih _ _ _ (by omega) h
    · rw [textE_end a i out (by omega)] at h; cases h
theorem oneP (H : Sep a b s c) {kw : List UInt8 → Bool} {i : Nat} (hi : i < a.size) {t : Int × ByteArray} {e : Nat} (h : oneE kw a i = .ok (t, e)) : oneE kw s i = .ok (t, e) := by
  have hs := H.size
  have hle := (oneE_lt hi h).2
  simp only at hle
  unfold oneE at *
  rw [H.pre.bt i hi, H.cross (by omega) (by decide) (by decide)]
  split at h
  · rename_i h1
    rw [if_pos h1]
    cases ht : textE a (i + 1) [] with
    | none => rw [ht] at h; cases h
    | some r =>
      rw [ht] at h
      rw [textP H _ _ _ _ (Nat.le_refl _) ht]
      exact h
  · rename_i h1
    rw [if_neg h1]
    cases hp : preAt a i opened with
    | true =>
      rw [hp, if_pos rfl] at h
      rw [if_pos rfl]
      cases ht : nestE a opened closed i 0 with
      | none => rw [ht] at h; cases h
      | some j =>
        rw [ht] at h
        rw [nestP H (by decide) (by decide) (by decide) (by decide) (by decide) (by decide) _ _ _ _ (Nat.le_refl _) ht]
        simp only [Except.ok.injEq, Prod.mk.injEq] at h
        obtain ⟨rfl, rfl⟩ := h
        simp only
        rw [H.pre.ext _ _ (by omega)]
    | false =>
      rw [hp, if_neg Bool.false_ne_true] at h
      rw [if_neg Bool.false_ne_true, H.pre.ext i _ (best_le H hi 4), bestP H hi 4]
      exact h
/-- the tokens from a place on, behind blanks -/
def goon (kw : List UInt8 → Bool) (s : ByteArray) (i : Nat) (pre : List Tok) : List Tok × Option (Nat × Int) :=
  match blanksE s i with
  | .error p => (pre, some (p, 162))
  | .ok j => scanFrom kw s j pre
theorem scan_goon (kw : List UInt8 → Bool) (s : ByteArray) : scanE kw s = goon kw s 0 [] := rfl
theorem scanFrom_goon (kw : List UInt8 → Bool) (s : ByteArray) (i : Nat) (pre : List Tok) (h : i < s.size) : scanFrom kw s i pre =
    (match oneE kw s i with
     | .error c => (pre, some (i, c))
     | .ok ((k, t), e) => goon kw s e (pre ++ [⟨k, t, i⟩])) := scanFrom_eq kw s i pre h
end

/-- b stands in s, from place m on, to its end -/
structure Suf (m : Nat) (b s : ByteArray) : Prop where
  size : s.size = m + b.size
  bt : ∀ i : Nat, bt s ((m + i : Nat) : Int) = bt b (i : Int)
  at_ : ∀ i t, preAt s (m + i) t = preAt b i t
  ext : ∀ i j, s.extract (m + i) (m + j) = b.extract i j
theorem Suf.mk' {b s : ByteArray} {x : List UInt8} (h : s.data.toList = x ++ b.data.toList) : Suf x.length b s where
  size := by
    have := congrArg List.length h
    rw [List.length_append] at this
    exact this
  bt := fun i => by rw [bt_opt, bt_opt, h, List.getElem?_append_right (by omega), Nat.add_sub_cancel_left]
  at_ := fun i t => by unfold preAt; rw [h, ← List.drop_drop, List.drop_left]
  ext := fun i j => by
    apply ba_ext
    rw [ext_list, ext_list, h, ← List.drop_drop, List.drop_left, show x.length + j - (x.length + i) = j - i by omega]
section
variable {m : Nat} {b s : ByteArray}
end
end Go.Proofs.YtmkfeanggmjhmaaGreat.Q

/- What a scan returns: how many tokens, where they stand, which errors.  It names no program. -/
namespace Go.Proofs.YtmkfeanggmjhmaaGreat.Q
set_option linter.unusedSimpArgs false
set_option linter.unusedVariables false
open Go Go.RowKit Go.Proofs.YtmkfeanggmjhmaaGreatW.PrintWords Go.Proofs.YtmkfeanggmjhmaaGreat.M

theorem one_err {kw : List UInt8 → Bool} {s : ByteArray} {i : Nat} {c : Int} (h : oneE kw s i = .error c) : c = 160 ∨ c = 161 := by
  unfold oneE at h
  split at h
  · split at h
    · cases h
    · cases h; exact .inr rfl
  · split at h
    · split at h
      · cases h
      · cases h; exact .inr rfl
    · split at h
      · cases h; exact .inl rfl
      · cases h
theorem goon_bounds (kw : List UInt8 → Bool) (s : ByteArray) : ∀ d i pre, s.size - i ≤ d → i ≤ s.size →
    (∃ more : List Tok, (goon kw s i pre).1 = pre ++ more ∧ more.length ≤ s.size - i ∧ ∀ t ∈ more, t.at_ < s.size) ∧ ∀ q c, (goon kw s i pre).2 = some (q, c) → q ≤ s.size ∧ (c = 160 ∨ c = 161 ∨ c = 162) := by
  intro d
  induction d using Nat.strongRecOn with
  | _ d ih =>
    intro i pre hd hi
    cases hb : blanksE s i with
    | error p =>
      have e : goon kw s i pre = (pre, some (p, 162)) := by unfold goon; rw [hb]
      rw [e]
      refine ⟨⟨[], by simp, by simp, by simp⟩, fun q c h => ?_⟩
      cases h
      exact ⟨(blanksE_le' hi hb).2, .inr (.inr rfl)⟩
    | ok j =>
      have hj := blanksE_le hi hb
      have e : goon kw s i pre = scanFrom kw s j pre := by unfold goon; rw [hb]
      rw [e]
      by_cases hlt : j < s.size
      · rw [scanFrom_goon kw s j pre hlt]
        cases ho : oneE kw s j with
        | error c0 =>
          refine ⟨⟨[], by simp, by simp, by simp⟩, fun q c h => ?_⟩
          cases h
          rcases one_err ho with h | h
          · exact ⟨hj.2, .inl h⟩
          · exact ⟨hj.2, .inr (.inl h)⟩
        | ok r =>
          obtain ⟨⟨k, t⟩, en⟩ := r
          have h1 := oneE_lt hlt ho
          simp only at h1 ⊢
          obtain ⟨⟨more, h2, h3, h4⟩, h5⟩ := ih (s.size - en) (by omega) en (pre ++ [⟨k, t, j⟩]) (Nat.le_refl _) h1.2
          refine ⟨⟨⟨k, t, j⟩ :: more, by rw [h2]; simp, by simp only [List.length_cons]; omega, fun u hu => ?_⟩, h5⟩
          rcases List.mem_cons.1 hu with rfl | hu
          · exact hlt
          · exact h4 u hu
      · rw [scanFrom_end kw s j pre (by omega)]
        exact ⟨⟨[], by simp, by simp, by simp⟩, fun q c h => by cases h⟩
theorem scan_bounds (kw : List UInt8 → Bool) (s : ByteArray) : (scanE kw s).1.length ≤ s.size ∧ (∀ t ∈ (scanE kw s).1, t.at_ < s.size) ∧ ∀ q c, (scanE kw s).2 = some (q, c) → q ≤ s.size ∧ (c = 160 ∨ c = 161 ∨ c = 162) := by
  obtain ⟨⟨more, h1, h2, h3⟩, h4⟩ := goon_bounds kw s _ 0 [] (Nat.le_refl _) (Nat.zero_le _)
  rw [scan_goon, h1, List.nil_append]
  exact ⟨by omega, h3, h4⟩
end Go.Proofs.YtmkfeanggmjhmaaGreat.Q
