/- Own walks of the reference of tokens: rows of tokens at any places, spelled. -/
import Derived.Test.YtmkfeanggmjhmaaGreatV57
import Derived.Test.YtmkfeanggmjhmaaGreatJ2
import Derived.Deep.QuietTactic
import Derived.BigQuiet
import Derived.Test.YtmkfeanggmjhmaaGreatPl
namespace Go.Proofs.YtmkfeanggmjhmaaGreat.Vw
open Go Go.RowKit Go.Shelf Go.Proofs.YtmkfeanggmjhmaaGreatW.PrintWords Go.Proofs.YtmkfeanggmjhmaaGreatW.PrintLast Go.Proofs.YtmkfeanggmjhmaaGreatW.PrintMore
open Go.Proofs.YtmkfeanggmjhmaaGreat.M Go.Proofs.YtmkfeanggmjhmaaGreat.K Go.Proofs.YtmkfeanggmjhmaaGreat.S Go.Proofs.YtmkfeanggmjhmaaGreat.Rp Go.Proofs.YtmkfeanggmjhmaaGreat.Wr Go.Proofs.YtmkfeanggmjhmaaGreat.J
open Go.Proofs.YtmkfeanggmjhmaaGreat.G (Rd Mine Cells iso pair str int C)
set_option linter.unusedSimpArgs false
set_option linter.unusedVariables false

def kTk : Rd Tk := pair (int .i64) (pair str (int .i64))
theorem kTk_mk (S : Nat → Prop) (w : World) (x : Tk) : kTk.K S w x [.int .i64 x.1, .string x.2.1, .int .i64 x.2.2] := ⟨[.int .i64 x.1], [.string x.2.1, .int .i64 x.2.2], rfl, rfl, [.string x.2.1], [.int .i64 x.2.2], rfl, rfl, rfl⟩
theorem kTk_open {S : Nat → Prop} {w : World} {x : Tk} {cs : List Value} (h : kTk.K S w x cs) : cs = [.int .i64 x.1, .string x.2.1, .int .i64 x.2.2] := by
  obtain ⟨c1, c2, rfl, rfl, c3, c4, rfl, rfl, rfl⟩ := h
  rfl
theorem tk_at {S : Nat → Prop} {w : World} {A : Option Addr} {l : List Tk} (h : C kTk S w A l) (j : Nat) (hj : j < l.length) : ∃ b o, A = some ⟨b, o, none⟩ ∧ b < w.heap.size ∧ w.cell? ⟨b, o + j * 3, none⟩ = some (.int .i64 (l[j]'hj).1) ∧ w.cell? ⟨b, o + j * 3 + 1, none⟩ = some (.string (l[j]'hj).2.1) ∧ w.cell? ⟨b, o + j * 3 + 2, none⟩ = some (.int .i64 (l[j]'hj).2.2) := by
  obtain ⟨b, o, cs, e, _, hb, hK, hc⟩ := h.at_ j hj
  obtain rfl := kTk_open hK
  have e3 : kTk.sz = 3 := rfl
  rw [e3] at hc
  exact ⟨b, o, e, hb, hc 0 _ rfl, hc 1 _ rfl, hc 2 _ rfl⟩
/-- the reference's own tokens, read as tokens at any places -/
theorem tok_tk {S : Nat → Prop} {w : World} {A : Option Addr} {l : List Tok} (h : C V.kTok S w A l) : C kTk S w A (l.map tk) := ⟨by rw [List.length_map]; exact h.1, fun hn => by
  obtain ⟨b, o, e, hs, hb, hc⟩ := h.2 (fun e => hn (by rw [e]; rfl))
  refine ⟨b, o, e, hs, hb, fun j x hj => ?_⟩
  rw [List.getElem?_map] at hj
  obtain ⟨y, hy, rfl⟩ := Option.map_eq_some_iff.1 hj
  obtain ⟨cs, hK, hcc⟩ := hc j y hy
  obtain rfl := V.kTok_open hK
  exact ⟨_, kTk_mk _ _ _, hcc⟩⟩

/-! ### few and short -/
theorem small1_calls (x : Tk) (w : World) :
    Calls Tryz.prog 25 #[.agg #[.int .i64 x.1, .string x.2.1, .int .i64 x.2.2]] w fun r w' => r = .returned (.bool (decide (100 < x.2.1.size))) ∧ Below w.heap.size w w' := by
  have hal : Below w.heap.size w (w.alloc (.cells #[.int .i64 x.1, .string x.2.1, .int .i64 x.2.2] 37)) := (Below.refl _ w).alloc (Nat.le_refl _) _
  by_cases h : 100 < x.2.1.size
  · have g : (100 : Int) < (x.2.1.size : Int) := by omega
    rw [decide_eq_true h]
    go_enter Tryz.func25, Tryz.ntmps25
    go_wp2
    go_ret
    exact ⟨rfl, hal⟩
  · have g : ¬ (100 : Int) < (x.2.1.size : Int) := by omega
    rw [decide_eq_false h]
    go_enter Tryz.func25, Tryz.ntmps25
    go_wp2
    go_ret
    exact ⟨rfl, hal⟩

theorem IndexFunc_tok (S : Nat → Prop) (A : Option Addr) (c : Nat) (ts : List Tk) (hc : ts.length ≤ c) (w : World) (hr : C kTk S w A ts) (hl : ts.length ≤ 1000000000000) :
    Calls Tryz.prog 38 #[.slice A ts.length c, .func (.func 25) #[] #[]] w fun r w' =>
      (∃ i : Int, r = .returned (.int .i64 i) ∧ (decide (0 ≤ i) = ts.any (fun x => decide (100 < x.2.1.size)))) ∧ Below w.heap.size w w' := by
  have Hr := Lib.hid hr
  clear hr
  generalize hB : ts.any (fun x => decide (100 < x.2.1.size)) = B
  have HB := Lib.hid hB
  clear hB
  go_enter Tryz.func38, Tryz.ntmps38
  go_wp2
  go_loopg [8] ts.length (fun gg v wr => ∃ k : Nat, v = .int .i64 k ∧ k ≤ ts.length ∧ ts.length - k ≤ gg ∧ Hid ((ts.drop k).any (fun x => decide (100 < x.2.1.size)) = B) ∧ Hid (Below w.heap.size w wr))
  case atStart => exact ⟨0, rfl, by omega, by omega, by simpa using HB, Lib.hid (Below.refl _ _)⟩
  case round =>
    obtain ⟨k, rfl, hk, hg, HL, HBl⟩ := hrel
    by_cases hlt : k < ts.length
    · have hltz : (k : Int) < (ts.length : Int) := by omega
      obtain ⟨b, o, rfl, _, x0, x1, x2⟩ := tk_at (Hr.out.below HBl.out) k hlt
      have Hd : Hid (ts.drop k = (ts[k]'hlt) :: ts.drop (k + 1)) := List.drop_eq_getElem_cons hlt
      generalize ts[k]'hlt = x at x0 x1 x2 Hd
      have HF := Lib.hid (small1_calls x wr)
      rw [Hd.out, List.any_cons] at HL
      by_cases h60 : 100 < x.2.1.size
      · rw [decide_eq_true h60] at HF HL
        rw [Bool.true_or] at HL
        obtain rfl := HL.out
        clear h60
        go_wp2_with (go_at_call 25; refine HF.out.mono ?_; rintro e w' ⟨rfl, hb⟩)
        go_ret
        exact ⟨⟨_, rfl, by simp⟩, HBl.out.trans (hb.mono HBl.out.size)⟩
      · rw [decide_eq_false h60] at HF HL
        rw [Bool.false_or] at HL
        clear h60
        go_wp2_with (go_at_call 25; refine HF.out.mono ?_; rintro e w' ⟨rfl, hb⟩)
        go_roundg (ts.length - (k + 1))
        case measure => omega
        case rel => exact ⟨k + 1, by go_num, by omega, Nat.le_refl _, HL, Lib.hid (HBl.out.trans (hb.mono HBl.out.size))⟩
    · have hltz : ¬ (k : Int) < (ts.length : Int) := by omega
      have h0 := HL.out
      rw [List.drop_eq_nil_of_le (by omega)] at h0
      clear HL
      obtain rfl : false = B := by simpa using h0
      clear h0
      go_wp2
      go_ret
      exact ⟨⟨_, rfl, by simp⟩, HBl.out⟩

theorem ContainsFunc_tok (S : Nat → Prop) (A : Option Addr) (c : Nat) (ts : List Tk) (hc : ts.length ≤ c) (w : World) (hr : C kTk S w A ts) (hl : ts.length ≤ 1000000000000) :
    Calls Tryz.prog 24 #[.slice A ts.length c, .func (.func 25) #[] #[]] w fun r w' =>
      r = .returned (.bool (ts.any (fun x => decide (100 < x.2.1.size)))) ∧ Below w.heap.size w w' := by
  have HI := Lib.hid (IndexFunc_tok S A c ts hc w hr hl)
  clear hr
  generalize ts.any (fun x => decide (100 < x.2.1.size)) = B at HI
  go_enter Tryz.func24, Tryz.ntmps24
  go_wp2_with fail
  refine HI.out.mono ?_
  rintro e w' ⟨⟨i, rfl, hi⟩, hb⟩
  subst hi
  go_wp2
  go_ret
  exact ⟨rfl, hb⟩

def smallB (ts : List Tk) : Bool := decide (ts.length ≤ 40) && !(ts.any (fun x => decide (100 < x.2.1.size)))
theorem small_calls (S : Nat → Prop) (A : Option Addr) (c : Nat) (ts : List Tk) (hc : ts.length ≤ c) (w : World) (hr : C kTk S w A ts) :
    Calls Tryz.prog 11 #[.slice A ts.length c] w fun r w' => r = .returned (.bool (smallB ts)) ∧ Below w.heap.size w w' := by
  unfold smallB
  by_cases h20 : ts.length ≤ 40
  · have HI := Lib.hid (ContainsFunc_tok S A c ts hc w hr (by omega))
    clear hr
    rw [decide_eq_true h20, Bool.true_and]
    have g20 : (ts.length : Int) ≤ 40 := by omega
    generalize ts.any (fun x => decide (100 < x.2.1.size)) = B at HI ⊢
    clear h20
    go_enter Tryz.func11, Tryz.ntmps11
    go_wp2_with (go_at_call 24; refine HI.out.mono ?_; rintro e w' ⟨rfl, hb⟩)
    go_ret
    exact ⟨rfl, hb⟩
  · clear hr
    rw [decide_eq_false h20, Bool.false_and]
    have g20 : ¬ (ts.length : Int) ≤ 40 := by omega
    clear h20
    go_enter Tryz.func11, Tryz.ntmps11
    go_wp2
    go_ret
    exact ⟨rfl, Below.refl _ _⟩
theorem small_sizes {ts : List Tk} (h : smallB ts = true) : ts.length ≤ 40 ∧ ∀ x ∈ ts, x.2.1.size ≤ 100 := by
  unfold smallB at h
  simp only [Bool.and_eq_true, decide_eq_true_eq, Bool.not_eq_true', List.any_eq_false, Nat.not_lt] at h
  exact h

/-! ### tokens as those of the program -/
theorem tk36_info : (Tryz.prog.info? 30).map (fun i => (i.zero, i.size, i.bytes)) = some (some (.agg #[.int .i64 0, .string ⟨#[]⟩, .int .i64 0]), 3, 32) := by kernel_rfl
theorem flat_take (l : List Tk) (k : Nat) (h : k < l.length) : (l.take (k + 1)).flatMap tkCells = (l.take k).flatMap tkCells ++ tkCells (l[k]'h) := by
  rw [List.take_succ_eq_append_getElem h, List.flatMap_append, List.flatMap_cons, List.flatMap_nil, List.append_nil]

set_option maxRecDepth 100000 in
set_option maxHeartbeats 4000000 in
theorem tokens_calls (S : Nat → Prop) (A : Option Addr) (c : Nat) (l : List Tk) (w : World) (hC : C kTk S w A l) (hc : l.length ≤ c) (hl : l.length ≤ 1000000) :
    Calls Tryz.prog 14 #[.slice A l.length c] w fun e w' => ∃ v, e = .returned v ∧ w'.ownsRow w.heap.size 30 3 v l.length (l.flatMap tkCells) ∧ Below w.heap.size w w' := by
  have HC := Lib.hid hC
  clear hC
  have hlm : l.length ≤ 9223372036854775807 := by omega
  go_enter Tryz.func14, Tryz.ntmps14
  go_wp2
  go_loopg [3, 8] l.length (fun gg v3 v8 wr => ∃ (B : Option Addr) (n cp k : Nat), v3 = .slice B n cp ∧ v8 = .int .i64 k ∧ k ≤ l.length ∧ l.length - k ≤ gg ∧ Hid (wr.ownsRow w.heap.size 30 3 (.slice B n cp) k ((l.take k).flatMap tkCells)) ∧ Hid (Below w.heap.size w wr))
  case atStart => exact ⟨none, 0, 0, 0, rfl, rfl, by omega, by omega, Lib.hid (by rw [List.take_zero]; exact World.ownsRow_nil w _ _ _), Lib.hid (Below.refl _ _)⟩
  case round =>
    obtain ⟨B, n, cp, k, rfl, rfl, hk, hg, HM, HB⟩ := hrel
    by_cases hlt : k < l.length
    · have hlz : (k : Int) < (l.length : Int) := by omega
      have Hlt := Lib.hid hlt
      obtain ⟨b, o, rfl, hb, q0, q1, q2⟩ := tk_at (HC.out.below HB.out) k hlt
      have htk := flat_take l k hlt
      generalize l[k]'hlt = x at q0 q1 q2 htk
      obtain ⟨W6, hW6⟩ : ∃ W6, (wr.alloc (.cells #[.int .i64 x.1, .string x.2.1, .int .i64 x.2.2] 37)).alloc (.cells #[.int .i64 x.1, .string x.2.1, .int .i64 x.2.2] 30) = W6 := ⟨_, rfl⟩
      have hb6 : Below wr.heap.size wr W6 := by rw [← hW6]; exact ((Below.refl _ _).alloc (Nat.le_refl _) _).alloc (by simp) _
      have hcell : W6.heap[wr.heap.size + 1]? = some (.cells #[.int .i64 x.1, .string x.2.1, .int .i64 x.2.2] 30 (0, 0)) := by
        rw [← hW6]
        have := World.alloc_heap_new (wr.alloc (.cells #[.int .i64 x.1, .string x.2.1, .int .i64 x.2.2] 37)) (.cells #[.int .i64 x.1, .string x.2.1, .int .i64 x.2.2] 30)
        rwa [World.size_alloc] at this
      have hB6 : Below w.heap.size w W6 := HB.out.trans (hb6.mono HB.out.size)
      have hm6 : W6.ownsRow w.heap.size 30 3 (.slice B n cp) k ((l.take k).flatMap tkCells) := by
        rw [← hW6]
        exact (HM.out.alloc _).alloc _
      obtain ⟨i0, hi0, hz0, hz1, hz2⟩ := info_parts tk36_info
      obtain ⟨v', w7, hrun, hm7, hg7, _⟩ := run_append_own (P := Tryz.prog) W6 w.heap.size 25 25 30 i0 _ 3 32 Tryz.underlying25 hi0 hz0 hz1 hz2 rfl (by decide) (.slice B n cp) k _ hm6 ⟨wr.heap.size + 1, 0, none⟩ 1 1 (tkCells x) rfl
        (fun j u hj => by
          have e1 : ((⟨wr.heap.size + 1, 0, none⟩ : Addr).add j) = ⟨wr.heap.size + 1, j, none⟩ := by unfold Addr.add; split <;> simp_all
          rw [e1]
          rw [Lib.cell_of_heap hcell, ← Array.getElem?_toList]
          exact hj) (by
          intro u hu
          simp only [tkCells, List.mem_cons, List.not_mem_nil, or_false] at hu
          rcases hu with rfl | rfl | rfl <;> rfl) (by unfold maxLen; omega) (by omega) hB6.size
      rw [← htk] at hm7
      have hc7 : Chg (fun k => w.heap.size ≤ k) W6 w7 := Chg.grown hg7 (fun j e => .inl (by
        rcases hm6.2 with ⟨h1, _⟩ | ⟨g, cap, cur, h1, hg1, _⟩
        · injection h1 with h1
          subst h1
          simp [Value.ownBlock] at e
        · injection h1 with h1
          subst h1
          have : g = j := by simpa [Value.ownBlock] using e
          omega))
      have HB7 := Lib.hid (hB6.trans (hc7.below hB6.size (fun k hk => hk)))
      obtain ⟨B7, n7, c7, rfl⟩ : ∃ A n c, v' = .slice A n c := by
        rcases hm7.2 with ⟨h1, _⟩ | ⟨g, cap, cur, h1, _⟩
        · exact ⟨_, _, _, h1⟩
        · exact ⟨_, _, _, h1⟩
      have HM7 := Lib.hid hm7
      have HRun := Lib.hid hrun
      clear hb6 hcell hB6 hm6 hrun hm7 hg7 hc7 hi0 hz0 hz1 hz2 htk
      subst hW6
      go_wp2_with (at_builtin; refine Lib.wpList_append_run _ rfl _ _ _ _ rfl _ _ rfl rfl _ _ HRun.out ?_)
      go_roundg (l.length - (k + 1))
      case measure => omega
      case rel => exact ⟨B7, n7, c7, k + 1, rfl, by go_num, Hlt.out, Nat.le_refl _, HM7, HB7⟩
    · have hlz : ¬ (k : Int) < (l.length : Int) := by omega
      obtain rfl : k = l.length := by omega
      have HM := Lib.hid (show wr.ownsRow w.heap.size 30 3 (.slice B n cp) l.length (l.flatMap tkCells) by have := HM.out; rwa [List.take_length] at this)
      go_wp2
      go_ret
      exact ⟨_, rfl, HM.out, HB.out⟩
end Go.Proofs.YtmkfeanggmjhmaaGreat.Vw
namespace Go.Proofs.YtmkfeanggmjhmaaGreat.Vw
open Go Go.RowKit Go.Shelf Go.Proofs.YtmkfeanggmjhmaaGreatW.PrintWords Go.Proofs.YtmkfeanggmjhmaaGreatW.PrintLast Go.Proofs.YtmkfeanggmjhmaaGreatW.PrintMore
open Go.Proofs.YtmkfeanggmjhmaaGreat.M Go.Proofs.YtmkfeanggmjhmaaGreat.K Go.Proofs.YtmkfeanggmjhmaaGreat.S Go.Proofs.YtmkfeanggmjhmaaGreat.Rp Go.Proofs.YtmkfeanggmjhmaaGreat.Wr Go.Proofs.YtmkfeanggmjhmaaGreat.J
open Go.Proofs.YtmkfeanggmjhmaaGreat.G (Rd Mine Cells iso pair str int C)
set_option linter.unusedSimpArgs false
set_option linter.unusedVariables false

def outS (t : ByteArray) (i : Nat) : ByteArray := ⟨(34 :: escL (t.data.toList.take i)).toArray⟩
theorem outS_size (t : ByteArray) (i : Nat) (h : i ≤ t.size) : (outS t i).size ≤ 2 * t.size + 1 := by
  have h1 := escL_len (t.data.toList.take i)
  have h2 := cnt_le (t.data.toList.take i)
  have h3 : t.data.toList.length = t.size := rfl
  rw [List.length_take] at h1 h2
  simp only [outS, ByteArray.size, List.size_toArray, List.length_cons] at *
  omega
theorem outS_step (t : ByteArray) (i : Nat) (h : i < t.size) : outS t (i + 1) = outS t i ++ ⟨(esc (t.data.toList[i]'h)).toArray⟩ := by
  unfold outS
  rw [cat_list, escL_take _ _ h, List.cons_append]
theorem ext_one (t : ByteArray) (i : Nat) (h : i < t.size) : t.extract i (i + 1) = ⟨[t.data.toList[i]'h].toArray⟩ := by
  apply ByteArray.ext
  rw [ByteArray.data_extract]
  apply Array.ext'
  rw [Array.toList_extract, List.extract_eq_take_drop, List.drop_eq_getElem_cons h]
  simp
theorem byte_is {b c : UInt8} (h : (b.toNat : Int) = (c.toNat : Int)) : b = c := UInt8.toNat_inj.1 (by omega)
theorem outS_two (t : ByteArray) (i : Nat) (h : i < t.size) (hb : bt t i = 34 ∨ bt t i = 92) : outS t i ++ (⟨#[92]⟩ : ByteArray) ++ t.extract i (i + 1) = outS t (i + 1) := by
  have hn : bt t i = ((t.data.toList[i]'h).toNat : Int) := L.bt_nat t i h
  rw [outS_step t i h, ext_one t i h, ByteArray.append_assoc]
  congr 1
  generalize t.data.toList[i]'h = b at hn
  rcases hb with e | e <;> rw [e] at hn
  · obtain rfl : b = 34 := byte_is hn.symm
    rfl
  · obtain rfl : b = 92 := byte_is hn.symm
    rfl
theorem outS_line (t : ByteArray) (i : Nat) (h : i < t.size) (hb : bt t i = 10) : outS t i ++ (⟨#[92, 110]⟩ : ByteArray) = outS t (i + 1) := by
  have hn : bt t i = ((t.data.toList[i]'h).toNat : Int) := L.bt_nat t i h
  rw [outS_step t i h]
  congr 1
  generalize t.data.toList[i]'h = b at hn
  rw [hb] at hn
  obtain rfl : b = 10 := byte_is hn.symm
  rfl
theorem outS_one (t : ByteArray) (i : Nat) (h : i < t.size) (h1 : bt t i ≠ 34) (h2 : bt t i ≠ 92) (h3 : bt t i ≠ 10) : outS t i ++ t.extract i (i + 1) = outS t (i + 1) := by
  have hn : bt t i = ((t.data.toList[i]'h).toNat : Int) := L.bt_nat t i h
  rw [outS_step t i h, ext_one t i h]
  congr 1
  generalize t.data.toList[i]'h = b at hn
  have n1 : b ≠ 10 := fun e => h3 (by rw [hn, e]; rfl)
  have n2 : b ≠ 92 := fun e => h2 (by rw [hn, e]; rfl)
  have n3 : b ≠ 34 := fun e => h1 (by rw [hn, e]; rfl)
  unfold esc spec
  rw [if_neg n1, if_neg n2, if_neg n3]
theorem outS_end (t : ByteArray) : outS t t.size ++ (⟨#[34]⟩ : ByteArray) = ⟨(34 :: escL t.data.toList ++ [34]).toArray⟩ := by
  unfold outS
  rw [List.take_of_length_le (show t.data.toList.length ≤ t.size from Nat.le_refl _)]
  exact cat_list _ [34]
theorem spell_nine (t : ByteArray) : (⟨#[92, 60, 111, 112, 101, 110, 62]⟩ : ByteArray) ++ t ++ (⟨#[92, 60, 99, 108, 111, 115, 101, 62]⟩ : ByteArray) = spell 9 t := by
  have e : t = ⟨t.data.toList.toArray⟩ := by apply ByteArray.ext; simp
  have e1 := cat_list Rp.opened t.data.toList
  have e2 := cat_list (Rp.opened ++ t.data.toList) Rp.closed
  rw [← e] at e1
  rw [← e1] at e2
  exact e2

set_option maxRecDepth 100000 in
set_option maxHeartbeats 4000000 in
theorem rspelled_calls (kd : Int) (t : ByteArray) (q : Int) (ht : t.size ≤ 1000000) (w : World) :
    Calls Tryz.prog 27 #[.agg #[.int .i64 kd, .string t, .int .i64 q]] w fun e w' => e = .returned (.string (spell kd t)) ∧ Below w.heap.size w w' := by
  have HB := Lib.hid (show Below w.heap.size w (w.alloc (.cells #[.int .i64 kd, .string t, .int .i64 q] 37)) from (Below.refl _ _).alloc (Nat.le_refl _) _)
  by_cases h9 : kd = 9
  · subst h9
    have HS := Lib.hid (spell_nine t)
    go_enter Tryz.func27, Tryz.ntmps27
    go_wp2
    go_ret
    exact ⟨congrArg (fun s => Ending.returned (Value.string s)) HS.out, HB.out⟩
  · have b9 : (kd == 9) = false := beq_eq_false_iff_ne.2 h9
    by_cases h8 : kd = 8
    · subst h8
      obtain ⟨R, hR⟩ : ∃ R, (⟨(34 :: escL t.data.toList ++ [34]).toArray⟩ : ByteArray) = R := ⟨_, rfl⟩
      have hsp : spell 8 t = R := by rw [← hR]; unfold spell; rw [if_neg (by decide), if_pos rfl]
      rw [hsp]
      have HR := Lib.hid hR
      clear hsp hR h9
      obtain ⟨W1, hW1⟩ : ∃ W1, w.alloc (.cells #[.int .i64 8, .string t, .int .i64 q] 37) = W1 := ⟨_, rfl⟩
      have HH := Lib.hid (show W1.heap[w.heap.size]? = some (.cells #[.int .i64 8, .string t, .int .i64 q] 37 (0, 0)) by rw [← hW1]; exact World.alloc_heap_new w _)
      rw [hW1] at HB
      have y0 : W1.cell? ⟨w.heap.size, 0, none⟩ = some (.int .i64 8) := by simp [World.cell?, HH.out]
      have y1 : W1.cell? ⟨w.heap.size, 1, none⟩ = some (.string t) := by simp [World.cell?, HH.out]
      have o0 : outS t 0 = ⟨#[34]⟩ := rfl
      have HO := Lib.hid o0
      clear o0
      go_enter Tryz.func27, Tryz.ntmps27
      go_wp2
      clear hW1
      go_loopg [3, 4] t.size (fun gg v1 v2 wr => ∃ i : Nat, v1 = .string (outS t i) ∧ v2 = .int .i64 i ∧ i ≤ t.size ∧ t.size - i ≤ gg ∧ W1 = wr)
      case atStart => exact ⟨0, rfl, rfl, by omega, by omega, rfl⟩
      case round =>
        obtain ⟨i, rfl, rfl, hi, hg, rfl⟩ := hrel
        by_cases hlt : i < t.size
        · have hltz : (i : Int) < (t.size : Int) := by omega
          have ho := outS_size t i hi
          have hx := (L.bt_nat t i hlt).symm
          have p0 : (0 : Int) ≤ (i : Int) := by omega
          have p1 : (i : Int) ≤ (i : Int) + 1 := by omega
          have p2 : (i : Int) + 1 ≤ (t.size : Int) := by omega
          have t1 : (i : Int).toNat = i := by omega
          have t2 : ((i : Int) + 1).toNat = i + 1 := by omega
          have hes : (t.extract i (i + 1)).size = 1 := by rw [ByteArray.size_extract]; omega
          have Hlt := Lib.hid hlt
          have q1 : ¬ 9223372036854775807 < (outS t i).size + 1 := by omega
          have q2 : ¬ 9223372036854775807 < (outS t i).size + 2 := by omega
          have q3 : ¬ 9223372036854775807 < (outS t i).size + 1 + (t.extract i (i + 1)).size := by omega
          have q4 : ¬ 9223372036854775807 < (outS t i).size + (t.extract i (i + 1)).size := by omega
          by_cases h34 : bt t i = 34
          · have HX := Lib.hid (outS_two t i hlt (.inl h34))
            have b1 : (bt t i == 34) = true := beq_iff_eq.2 h34
            clear h34 hes ho
            go_wp2
            go_roundg (t.size - (i + 1))
            case measure => omega
            case rel => exact ⟨i + 1, congrArg Value.string HX.out, by go_num, Hlt.out, Nat.le_refl _, rfl⟩
          · have b1 : (bt t i == 34) = false := beq_eq_false_iff_ne.2 h34
            by_cases h92 : bt t i = 92
            · have HX := Lib.hid (outS_two t i hlt (.inr h92))
              have b2 : (bt t i == 92) = true := beq_iff_eq.2 h92
              clear h34 h92 hes ho
              go_wp2
              go_roundg (t.size - (i + 1))
              case measure => omega
              case rel => exact ⟨i + 1, congrArg Value.string HX.out, by go_num, Hlt.out, Nat.le_refl _, rfl⟩
            · have b2 : (bt t i == 92) = false := beq_eq_false_iff_ne.2 h92
              by_cases h10 : bt t i = 10
              · have HX := Lib.hid (outS_line t i hlt h10)
                have b3 : (bt t i == 10) = true := beq_iff_eq.2 h10
                clear h34 h92 h10 hes ho
                go_wp2
                go_roundg (t.size - (i + 1))
                case measure => omega
                case rel => exact ⟨i + 1, congrArg Value.string HX.out, by go_num, Hlt.out, Nat.le_refl _, rfl⟩
              · have HX := Lib.hid (outS_one t i hlt h34 h92 h10)
                have b3 : (bt t i == 10) = false := beq_eq_false_iff_ne.2 h10
                clear h34 h92 h10 hes ho
                go_wp2
                go_roundg (t.size - (i + 1))
                case measure => omega
                case rel => exact ⟨i + 1, congrArg Value.string HX.out, by go_num, Hlt.out, Nat.le_refl _, rfl⟩
        · obtain rfl : i = t.size := by omega
          have hltz : ¬ (t.size : Int) < (t.size : Int) := by omega
          have ho := outS_size t t.size (Nat.le_refl _)
          have q1 : ¬ 9223372036854775807 < (outS t t.size).size + 1 := by omega
          have HE := Lib.hid ((outS_end t).trans HR.out)
          clear ho
          go_wp2
          go_ret
          exact ⟨congrArg (fun s => Ending.returned (Value.string s)) HE.out, HB.out⟩
    · have hsp : spell kd t = t := by unfold spell; rw [if_neg h9, if_neg h8]
      have b8 : (kd != 8) = true := bne_iff_ne.2 h8
      rw [hsp]
      clear hsp
      go_enter Tryz.func27, Tryz.ntmps27
      go_wp2
      go_ret
      exact ⟨rfl, HB.out⟩

set_option maxRecDepth 100000 in
set_option maxHeartbeats 4000000 in
theorem rsame_calls (S S' : Nat → Prop) (A B : Option Addr) (c d : Nat) (xs ys : List Tk) (w : World) (hA : C kTk S w A xs) (hB : C kTk S' w B ys) (hl : xs.length ≤ 1000000) (hl2 : ys.length ≤ 1000000) :
    Calls Tryz.prog 30 #[.slice A xs.length c, .slice B ys.length d] w fun e w' => e = .returned (.bool (sameK xs ys)) ∧ Below w.heap.size w w' := by
  have HA := Lib.hid hA
  have HB := Lib.hid hB
  clear hA hB
  by_cases hlen : xs.length = ys.length
  · generalize hS : sameK xs ys = R
    have HS := Lib.hid hS
    have Hlen := Lib.hid hlen
    clear hS
    rw [← hlen]
    clear hlen
    go_enter Tryz.func30, Tryz.ntmps30
    go_wp2
    go_loopg [5] xs.length (fun gg v5 wr => ∃ (k : Nat), v5 = .int .i64 k ∧ k ≤ xs.length ∧ xs.length - k ≤ gg ∧ Hid (sameK (xs.drop k) (ys.drop k) = R) ∧ Hid (Below w.heap.size w wr))
    case atStart => exact ⟨0, rfl, by omega, by omega, HS, Lib.hid (Below.refl _ _)⟩
    case round =>
      clear HS
      obtain ⟨k, rfl, hk, hg, HS, HBw⟩ := hrel
      by_cases hlt : k < xs.length
      · have hlz : (k : Int) < (xs.length : Int) := by omega
        have hk0 : (0 : Int) ≤ (k : Int) := by omega
        have hlt2 : k < ys.length := by have := Hlen.out; omega
        have Hlt := Lib.hid hlt
        obtain ⟨b, o, rfl, hb, x0, x1, x2⟩ := tk_at (HA.out.below HBw.out) k hlt
        obtain ⟨b2, o2, rfl, hb2, y0, y1, y2⟩ := tk_at (HB.out.below HBw.out) k hlt2
        have hs := HS.out
        rw [List.drop_eq_getElem_cons hlt, List.drop_eq_getElem_cons hlt2] at hs
        unfold sameK at hs
        generalize xs[k]'hlt = x at x0 x1 x2 hs
        generalize ys[k]'hlt2 = y at y0 y1 y2 hs
        have HD := Lib.hid hs
        clear hs HS hlt2
        cases hk1 : (x.1 == y.1) with
        | false =>
          have hd := HD.out
          rw [hk1, Bool.false_and] at hd
          subst hd
          have hk' : (x.1 != y.1) = true := by simp [bne, hk1]
          clear HD
          go_wp2
          go_quiet (fail)
          go_wp2
          go_ret
          exact ⟨rfl, below_drewN HBw.out _⟩
        | true =>
          have hd := HD.out
          rw [hk1, Bool.true_and] at hd
          have hk' : (x.1 != y.1) = false := by simp [bne, hk1]
          cases hk2 : (x.2.1.toList == y.2.1.toList) with
          | false =>
            rw [hk2, Bool.false_and] at hd
            subst hd
            have hk3 : (x.2.1.toList != y.2.1.toList) = true := by simp [bne, hk2]
            clear HD
            go_wp2
            go_quiet (fail)
            go_wp2
            go_ret
            exact ⟨rfl, below_drewN HBw.out _⟩
          | true =>
            rw [hk2, Bool.true_and] at hd
            have HS := Lib.hid hd
            have hk3 : (x.2.1.toList != y.2.1.toList) = false := by simp [bne, hk2]
            clear HD hd
            go_wp2
            go_quiet (fail)
            go_wp2
            go_roundg (xs.length - (k + 1))
            case measure => omega
            case rel => exact ⟨k + 1, by go_num, Hlt.out, Nat.le_refl _, HS, Lib.hid (below_drewN HBw.out _)⟩
      · have hlz : ¬ (k : Int) < (xs.length : Int) := by omega
        obtain rfl : k = xs.length := by omega
        have hs := HS.out
        rw [List.drop_length, Hlen.out, List.drop_length] at hs
        obtain rfl : true = R := hs
        clear HS Hlen
        go_wp2
        go_ret
        exact ⟨rfl, HBw.out⟩
  · have hf : sameK xs ys = false := by
      cases h : sameK xs ys with
      | false => rfl
      | true =>
        exfalso
        apply hlen
        clear HA HB hl hl2 hlen
        induction xs generalizing ys with
        | nil => cases ys with
          | nil => rfl
          | cons y s => simp [sameK] at h
        | cons x r ih => cases ys with
          | nil => simp [sameK] at h
          | cons y s =>
            simp only [sameK, Bool.and_eq_true] at h
            rw [List.length_cons, List.length_cons, ih s h.2.2]
    rw [hf]
    have hlz : ((xs.length : Int) != (ys.length : Int)) = true := bne_iff_ne.2 (by omega)
    clear hf hlen
    go_enter Tryz.func30, Tryz.ntmps30
    go_wp2
    go_ret
    exact ⟨rfl, Below.refl _ _⟩

/-! ### Write -/
theorem ref_big {l : List ByteArray} {s : ByteArray} (h0 : checkE l = 0) (h : 40000 < s.size) : L.scanRef l s = ([], 0, 7) := by
  unfold L.scanRef
  rw [if_neg (fun h => h h0), if_pos h]
theorem ref_small {l : List ByteArray} {s : ByteArray} (h0 : checkE l = 0) (h : ¬ 40000 < s.size) : L.scanRef l s = (match scanE (kwp l) s with
    | (xs, none) => (xs, 0, 0)
    | (_, some (q, c)) => ([], q, c)) := by
  unfold L.scanRef
  rw [if_neg (fun h => h h0), if_neg h]
  rfl
/-- what Write returns, by what Scan returns -/
def wrB (R : List Tok × Nat × Int) (kd : Int) (t : ByteArray) : Bool := decide (R.2.2 = 0) && match R.1 with
  | [x] => x.kind == kd && (x.text.toList == t.toList && ((x.at_ : Int) == 0))
  | _ => false
theorem write_ref {l : List ByteArray} (h0 : checkE l = 0) (kd : Int) (t : ByteArray) : writeAll l kd t = if wrB (L.scanRef l (spell kd t)) kd t then (spell kd t, 0) else (⟨#[]⟩, 2) := by
  unfold writeAll writeE
  rw [if_neg (fun h => h h0)]
  by_cases hbig : 40000 < (spell kd t).size
  · rw [if_pos hbig, ref_big h0 hbig]
    rfl
  · rw [if_neg hbig, ref_small h0 hbig]
    have hb := (Q.scan_bounds (kwp l) (spell kd t)).2.2
    generalize scanE (kwp l) (spell kd t) = R at hb
    obtain ⟨xs, _ | ⟨p, c⟩⟩ := R
    · match xs with
      | [] => rfl
      | [x] =>
        simp only [tokB_eq]
        unfold wrB
        simp
      | x :: y :: r => rfl
    · have hc : c ≠ 0 := by rcases (hb p c rfl).2 with rfl | rfl | rfl <;> decide
      have : wrB ([], p, c) kd t = false := by unfold wrB; simp
      rw [this]
      rcases xs with _ | ⟨x, _ | ⟨y, r⟩⟩ <;> rfl

theorem wrB_code {xs : List Tok} {p : Nat} {e : Int} (he : e ≠ 0) (kd : Int) (t : ByteArray) : wrB (xs, p, e) kd t = false := by
  unfold wrB; rw [decide_eq_false he]; rfl
theorem wrB_one (x : Tok) (p : Nat) (kd : Int) (t : ByteArray) : wrB ([x], p, 0) kd t = (x.kind == kd && (x.text.toList == t.toList && ((x.at_ : Int) == 0))) := by
  unfold wrB; simp
theorem wrB_len {xs : List Tok} {p : Nat} {e : Int} (h : xs.length ≠ 1) (kd : Int) (t : ByteArray) : wrB (xs, p, e) kd t = false := by
  unfold wrB
  match xs, h with
  | [], _ => simp
  | [x], h => exact absurd rfl h
  | x :: y :: r, _ => simp

set_option maxRecDepth 100000 in
set_option maxHeartbeats 4000000 in
theorem rWrite_calls (A : Option Addr) (c : Nat) (l : List ByteArray) (hx : ∀ x ∈ l, x.size ≤ 1000000000) (hc : l.length ≤ c) (kd : Int) (t : ByteArray) (q : Int) (ht : t.size ≤ 1000000) (w : World) (hr : Kd.C Kd.string w A l.length l) :
    Calls Tryz.prog 12 #[.slice A l.length c, .agg #[.int .i64 kd, .string t, .int .i64 q]] w fun e w' => e = .returned (.tuple #[.string (writeAll l kd t).1, .int .i64 (writeAll l kd t).2]) ∧ Below w.heap.size w w' := by
  have HC := Lib.hid (fun w hr => V.c_check A c l hx hc w hr)
  have Hr := Lib.hid hr
  have hal : Below w.heap.size w (w.alloc (.cells #[.int .i64 kd, .string t, .int .i64 q] 37)) := (Below.refl _ _).alloc (Nat.le_refl _) _
  have Hr1 := Lib.hid (Kd.C_below hr hal)
  generalize hR : writeAll l kd t = R
  clear hr
  by_cases h0 : checkE l = 0
  · rw [write_ref h0] at hR
    have hsz : (spell kd t).size ≤ maxLen := by have := spell_size kd t; unfold maxLen; omega
    have HSP := Lib.hid (fun w => rspelled_calls kd t q ht w)
    have HSC := Lib.hid (fun w hr => V.scan_calls A c l hx hc (spell kd t) w hr hsz)
    rw [h0] at HC
    generalize spell kd t = s at hR HSP HSC
    generalize L.scanRef l s = X at hR HSC
    obtain ⟨xs, p, e⟩ := X
    have HR := Lib.hid hR
    have Hal := Lib.hid hal
    clear hR hal hsz h0
    go_enter Tryz.func12, Tryz.ntmps12
    go_wp2_with fail
    refine (HC.out _ Hr1.out).mono ?_
    rintro e1 w1 ⟨rfl, hb1⟩
    have hzal : (w.alloc (.cells #[.int .i64 kd, .string t, .int .i64 q] 37)).heap.size = w.heap.size + 1 := by simp
    have HE0 := Lib.hid ((hb1.block w.heap.size (by rw [hzal]; omega)).trans (World.alloc_heap_new w _))
    have f0 : w1.cell? ⟨w.heap.size, 0, none⟩ = some (.int .i64 kd) := by rw [Lib.cell_of_heap HE0.out]; rfl
    have f1 : w1.cell? ⟨w.heap.size, 1, none⟩ = some (.string t) := by rw [Lib.cell_of_heap HE0.out]; rfl
    have f2 : w1.cell? ⟨w.heap.size, 2, none⟩ = some (.int .i64 q) := by rw [Lib.cell_of_heap HE0.out]; rfl
    have HB1 := Lib.hid (show Below w.heap.size w w1 from Hal.out.trans (hb1.mono (by rw [hzal]; omega)))
    have Hrw1 := Lib.hid (Kd.C_below Hr1.out hb1)
    clear hb1 hzal
    go_wp2_with fail
    refine (HSP.out _).mono ?_
    rintro e2 w2 ⟨rfl, hb2⟩
    have hlt1 := (Array.getElem?_eq_some_iff.1 HE0.out).1
    have HE2 := Lib.hid ((hb2.block _ hlt1).trans HE0.out)
    have HB2 := Lib.hid (HB1.out.trans (hb2.mono HB1.out.size))
    have Hrw2 := Lib.hid (Kd.C_below Hrw1.out hb2)
    clear hb2 f0 f1 f2 HE0 hlt1
    go_wp2_with fail
    refine (HSC.out _ Hrw2.out).mono ?_
    rintro e3 w3 ⟨v, rfl, hm, hb3⟩
    have hlt2 := (Array.getElem?_eq_some_iff.1 HE2.out).1
    have HE3 := Lib.hid ((hb3.block _ hlt2).trans HE2.out)
    have g0 : w3.cell? ⟨w.heap.size, 0, none⟩ = some (.int .i64 kd) := by rw [Lib.cell_of_heap HE3.out]; rfl
    have g1 : w3.cell? ⟨w.heap.size, 1, none⟩ = some (.string t) := by rw [Lib.cell_of_heap HE3.out]; rfl
    have HB3 := Lib.hid (HB2.out.trans (hb3.mono HB2.out.size))
    obtain ⟨A3, c3, rfl, hc3⟩ := hm.form
    have HC3 := Lib.hid hm.read.2.2
    clear hb3 HE2 hlt2 hm
    by_cases he : e = 0
    · subst he
      by_cases h1 : xs.length = 1
      · match xs, h1, HC3, HR, hc3 with
        | [x], _, HC3, HR, hc3 =>
          obtain ⟨b, o, rfl, hb, x0, x1, x2⟩ := V.tok_at HC3.out 0 (by simp)
          rw [Nat.zero_mul, Nat.add_zero] at x0 x1 x2
          simp only [List.getElem_cons_zero] at x0 x1 x2
          have hr := HR.out
          rw [wrB_one] at hr
          simp only [List.length_singleton] at hc3 ⊢
          clear HR
          cases hk : (x.kind == kd) with
          | false =>
            rw [hk, Bool.false_and, if_neg (by decide)] at hr
            subst hr
            have k1 : (x.kind != kd) = true := by simp [bne, hk]
            clear hk
            go_wp2
            go_quiet (fail)
            go_wp2
            go_ret2
            exact ⟨rfl, below_drewN HB3.out _⟩
          | true =>
            rw [hk, Bool.true_and] at hr
            have k1 : (x.kind != kd) = false := by simp [bne, hk]
            cases htx : (x.text.toList == t.toList) with
            | false =>
              rw [htx, Bool.false_and, if_neg (by decide)] at hr
              subst hr
              have k2 : (x.text.toList != t.toList) = true := by simp [bne, htx]
              clear hk
              go_wp2
              go_quiet (fail)
              go_wp2
              go_ret2
              exact ⟨rfl, below_drewN HB3.out _⟩
            | true =>
              rw [htx, Bool.true_and] at hr
              have k2 : (x.text.toList != t.toList) = false := by simp [bne, htx]
              cases hat : ((x.at_ : Int) == 0) with
              | false =>
                rw [hat, if_neg (by decide)] at hr
                subst hr
                have k3 : ((x.at_ : Int) != 0) = true := by simp [bne, hat]
                clear hk
                go_wp2
                go_quiet (fail)
                go_wp2
                go_ret2
                exact ⟨rfl, below_drewN HB3.out _⟩
              | true =>
                rw [hat, if_pos rfl] at hr
                subst hr
                have k3 : ((x.at_ : Int) != 0) = false := by simp [bne, hat]
                clear hk
                go_wp2
                go_quiet (fail)
                go_wp2
                go_ret2
                exact ⟨rfl, below_drewN HB3.out _⟩
      · have hr := HR.out
        rw [wrB_len h1, if_neg (by decide)] at hr
        subst hr
        have g : ((xs.length : Int) != 1) = true := bne_iff_ne.2 (by omega)
        clear HR h1
        go_wp2
        go_quiet (fail)
        go_wp2
        go_ret2
        exact ⟨rfl, below_drewN HB3.out _⟩
    · have hr := HR.out
      rw [wrB_code he, if_neg (by decide)] at hr
      subst hr
      have g : (e != 0) = true := bne_iff_ne.2 he
      clear HR he
      go_wp2
      go_quiet (fail)
      go_wp2
      go_ret2
      exact ⟨rfl, below_drewN HB3.out _⟩
  · have hr : (⟨#[]⟩, checkE l) = R := by rw [← hR]; unfold writeAll; rw [if_pos h0]
    clear hR
    subst hr
    have HH0 := Lib.hid h0
    have g : (checkE l != 0) = true := bne_iff_ne.2 h0
    have Hal := Lib.hid hal
    generalize checkE l = E at HC g
    clear h0 hal HH0
    go_enter Tryz.func12, Tryz.ntmps12
    go_wp2_with fail
    refine (HC.out _ Hr1.out).mono ?_
    rintro e1 w1 ⟨rfl, hb1⟩
    have HB1 := Lib.hid (show Below w.heap.size w w1 from Hal.out.trans (hb1.mono (by simp)))
    clear hb1
    go_wp2
    go_ret2
    exact ⟨rfl, HB1.out⟩
end Go.Proofs.YtmkfeanggmjhmaaGreat.Vw
namespace Go.Proofs.YtmkfeanggmjhmaaGreat.Vw
open Go Go.RowKit Go.Shelf Go.Proofs.YtmkfeanggmjhmaaGreatW.PrintWords Go.Proofs.YtmkfeanggmjhmaaGreatW.PrintLast Go.Proofs.YtmkfeanggmjhmaaGreatW.PrintMore
open Go.Proofs.YtmkfeanggmjhmaaGreat.M Go.Proofs.YtmkfeanggmjhmaaGreat.K Go.Proofs.YtmkfeanggmjhmaaGreat.S Go.Proofs.YtmkfeanggmjhmaaGreat.Rp Go.Proofs.YtmkfeanggmjhmaaGreat.Wr Go.Proofs.YtmkfeanggmjhmaaGreat.J
open Go.Proofs.YtmkfeanggmjhmaaGreat.G (Rd Mine Cells iso pair str int C)
set_option linter.unusedSimpArgs false
set_option linter.unusedVariables false

theorem str_spell {p : List UInt8 → Bool} {x : Tk} (h : errOf p x = 0) : strOf p x = spell x.1 x.2.1 := by
  unfold errOf at h
  unfold strOf
  unfold writeE at *
  split at h
  · exact absurd h (by decide)
  · rename_i h1
    rw [if_neg h1]
    split at h
    · rename_i x' h2
      split at h
      · rename_i h3; rw [if_pos h3]
      · exact absurd h (by decide)
    · exact absurd h (by decide)
theorem first_all {p : List UInt8 → Bool} : ∀ ts : List Tk, firstErr p ts = 0 → ∀ x ∈ ts, errOf p x = 0
  | [], _ => fun x hx => absurd hx List.not_mem_nil
  | y :: r, h => by
    rw [firstErr_cons] at h
    split at h
    · rename_i h1; exact absurd h h1
    · rename_i h1
      intro x hx
      rcases List.mem_cons.1 hx with rfl | hx
      · exact Decidable.byContradiction h1
      · exact first_all r h x hx
def okR (R : List Tok × Nat × Int) (ts : List Tk) (i : Nat) : Bool := decide (R.2.2 = 0) && sameK (R.1.map tk) (ts.take (i + 1))
theorem ok_ref {l : List ByteArray} (h0 : checkE l = 0) (ts : List Tk) (i : Nat) (out s : ByteArray) : okJ (kwp l) ts i out s = okR (L.scanRef l (out ++ s)) ts i := by
  unfold okJ
  by_cases hbig : 40000 < (out ++ s).size
  · rw [ref_big h0 hbig]
    rw [ByteArray.size_append] at hbig
    rw [decide_eq_false (by omega)]
    rfl
  · rw [ref_small h0 hbig]
    rw [ByteArray.size_append] at hbig
    rw [decide_eq_true (by omega), Bool.true_and]
    have hb := (Q.scan_bounds (kwp l) (out ++ s)).2.2
    generalize scanE (kwp l) (out ++ s) = R at hb
    obtain ⟨xs, _ | ⟨p, c⟩⟩ := R
    · simp [okR]
    · have hc : c ≠ 0 := by rcases (hb p c rfl).2 with rfl | rfl | rfl <;> decide
      simp [okR, hc]

set_option maxRecDepth 100000 in
set_option maxHeartbeats 8000000 in
theorem rJoin_calls (S : Nat → Prop) (A : Option Addr) (c : Nat) (l : List ByteArray) (hx : ∀ x ∈ l, x.size ≤ 1000000000) (hc : l.length ≤ c) (B : Option Addr) (d : Nat) (ts : List Tk) (hd : ts.length ≤ d) (hts : ∀ x ∈ ts, x.2.1.size ≤ 1000000) (w : World)
    (hr : Kd.C Kd.string w A l.length l) (hB : C kTk S w B ts) :
    Calls Tryz.prog 15 #[.slice A l.length c, .slice B ts.length d] w fun e w' => e = .returned (.tuple #[.string (joinAll l ts).1, .int .i64 (joinAll l ts).2]) ∧ Below w.heap.size w w' := by
  have HC := Lib.hid (V.c_check A c l hx hc w hr)
  have Hr := Lib.hid hr
  have HTs := Lib.hid hB
  clear hr hB
  generalize hR : joinAll l ts = R
  unfold joinAll at hR
  by_cases h0 : checkE l = 0
  · rw [if_neg (fun h => h h0)] at hR
    rw [h0] at HC
    unfold joinE at hR
    by_cases hbig : 1000 < ts.length
    · rw [if_pos hbig] at hR
      subst hR
      have g : (1000 : Int) < (ts.length : Int) := by omega
      clear hbig h0
      go_enter Tryz.func15, Tryz.ntmps15
      go_wp2_with fail
      refine HC.out.mono ?_
      rintro e1 w1 ⟨rfl, hb1⟩
      have HB1 := Lib.hid hb1
      clear hb1
      go_wp2
      go_ret2
      exact ⟨rfl, HB1.out⟩
    · rw [if_neg hbig] at hR
      have g : ¬ (1000 : Int) < (ts.length : Int) := by omega
      have HR := Lib.hid hR
      have HH0 := Lib.hid h0
      have HTZ := Lib.hid hts
      have HWR := Lib.hid (fun (x : Tk) (hxs : x.2.1.size ≤ 1000000) w hr => show Calls Tryz.prog 12 #[.slice A l.length c, .agg #[.int .i64 x.1, .string x.2.1, .int .i64 x.2.2]] w fun e w' => e = .returned (.tuple #[.string (strOf (kwp l) x), .int .i64 (errOf (kwp l) x)]) ∧ Below w.heap.size w w' by
        have h1 := rWrite_calls A c l hx hc x.1 x.2.1 x.2.2 hxs w hr
        have h2 : writeAll l x.1 x.2.1 = (strOf (kwp l) x, errOf (kwp l) x) := by unfold writeAll; rw [if_neg (fun h => h h0)]; rfl
        rw [h2] at h1
        exact h1)
      have HSC := Lib.hid (fun s w hr hs => V.scan_calls A c l hx hc s w hr hs)
      have HSP := Lib.hid (fun kd t q ht w => rspelled_calls kd t q ht w)
      have HSM := Lib.hid (fun S S' A B c d xs ys w hA hB hl hl2 => rsame_calls S S' A B c d xs ys w hA hB hl hl2)
      clear hR hbig h0 hx hts
      go_enter Tryz.func15, Tryz.ntmps15
      go_wp2_with fail
      refine HC.out.mono ?_
      rintro e1 w1 ⟨rfl, hb1⟩
      have HB1 := Lib.hid hb1
      clear hb1 HC
      go_wp2
      go_loopg [7] ts.length (fun gg v7 wr => ∃ i : Nat, v7 = .int .i64 i ∧ i ≤ ts.length ∧ ts.length - i ≤ gg ∧ Hid (firstErr (kwp l) ts = firstErr (kwp l) (ts.drop i)) ∧ Hid (Below w.heap.size w wr))
      case atStart => exact ⟨0, rfl, by omega, by omega, Lib.hid rfl, HB1⟩
      case round =>
        clear HB1
        obtain ⟨i, rfl, hi, hgg, HF, HB⟩ := hrel
        by_cases hlt : i < ts.length
        · have hltz : (i : Int) < (ts.length : Int) := by omega
          have Hlt := Lib.hid hlt
          obtain ⟨b, o, rfl, _, x0, x1, x2⟩ := tk_at (HTs.out.below HB.out) i hlt
          have hxs := HTZ.out _ (List.getElem_mem hlt)
          have hf := HF.out
          rw [List.drop_eq_getElem_cons hlt, firstErr_cons] at hf
          generalize ts[i]'hlt = x at x0 x1 x2 hxs hf
          have HW := Lib.hid (HWR.out x hxs wr (Kd.C_below Hr.out HB.out))
          by_cases he : errOf (kwp l) x = 0
          · rw [if_neg (fun h => h he)] at hf
            have HF2 := Lib.hid hf
            have gz : (errOf (kwp l) x != 0) = false := bne_eq_false_iff_eq.2 he
            clear hf HF he
            go_wp2_with fail
            refine HW.out.mono ?_
            rintro e2 w2 ⟨rfl, hb2⟩
            have HB2 := Lib.hid (HB.out.trans (hb2.mono HB.out.size))
            clear hb2
            go_wp2
            go_roundg (ts.length - (i + 1))
            case measure => omega
            case rel => exact ⟨i + 1, by go_num, Hlt.out, Nat.le_refl _, HF2, HB2⟩
          · rw [if_pos he] at hf
            have hr := HR.out
            rw [hf, if_pos he] at hr
            subst hr
            have gz : (errOf (kwp l) x != 0) = true := bne_iff_ne.2 he
            clear hf HF he HR
            go_wp2_with fail
            refine HW.out.mono ?_
            rintro e2 w2 ⟨rfl, hb2⟩
            have HB2 := Lib.hid (HB.out.trans (hb2.mono HB.out.size))
            clear hb2
            go_wp2
            go_ret2
            exact ⟨rfl, HB2.out⟩
        · have hltz : ¬ (i : Int) < (ts.length : Int) := by omega
          have hf := HF.out
          rw [List.drop_eq_nil_of_le (by omega)] at hf
          have hf0 : firstErr (kwp l) ts = 0 := hf
          have hr := HR.out
          rw [if_neg (fun h => h hf0)] at hr
          have HJ0 := Lib.hid hr
          have HE := Lib.hid (first_all ts hf0)
          clear hf hf0 hr HF HR HWR
          go_wp2
          obtain ⟨W2, hW2⟩ : ∃ W2, W2 = wr := ⟨_, rfl⟩
          subst hW2
          go_loopg [10, 11] ts.length (fun gg v10 v11 wr => ∃ (k : Nat) (out : ByteArray), v10 = .string out ∧ v11 = .int .i64 k ∧ k ≤ ts.length ∧ ts.length - k ≤ gg ∧ out.size ≤ 40000 ∧ Hid (joinF (kwp l) ts k ((ts.drop k).map (strOf (kwp l))) out = R) ∧ Hid (Below w.heap.size w wr))
          case atStart => exact ⟨0, ⟨#[]⟩, rfl, rfl, Nat.zero_le _, Nat.le_refl _, by decide, HJ0, HB⟩
          case round =>
            clear HJ0 HB hgg
            obtain ⟨k, out, rfl, rfl, hk, hgg, ho, HJ, HB⟩ := hrel
            by_cases hlk : k < ts.length
            · have hlkz : (k : Int) < (ts.length : Int) := by omega
              have hk0 : (0 : Int) ≤ (k : Int) + 1 := by omega
              have hkd : (k : Int) + 1 ≤ (d : Int) := by omega
              have hkt : ((k : Int) + 1).toNat = k + 1 := by omega
              have Hlk := Lib.hid hlk
              have htl : (ts.take (k + 1)).length = k + 1 := by rw [List.length_take]; omega
              have htm : (ts.take (k + 1)).length ≤ 1000000 := by rw [htl]; omega
              have hCt := (HTs.out.below HB.out)
              obtain ⟨b, o, rfl, _, x0, x1, x2⟩ := tk_at hCt k hlk
              have hxs := HTZ.out _ (List.getElem_mem hlk)
              have hst := str_spell (HE.out _ (List.getElem_mem hlk))
              have hsz := write_size (kwp l) (ts[k]'hlk).1 (ts[k]'hlk).2.1
              change (strOf (kwp l) (ts[k]'hlk)).size ≤ 40000 at hsz
              rw [hst] at hsz
              have hj := HJ.out
              rw [List.drop_eq_getElem_cons hlk, List.map_cons, joinF_cons, hst] at hj
              have HXS := Lib.hid (fun (w : World) => HSP.out (ts[k]'hlk).1 (ts[k]'hlk).2.1 (ts[k]'hlk).2.2 hxs w)
              generalize hxx : ts[k]'hlk = x at x0 x1 x2 hxs hj hsz HXS
              have hslt := lt_of_cell x0
              generalize spell x.1 x.2.1 = s at hj hsz HXS
              have hos : (out ++ s).size ≤ maxLen := by rw [ByteArray.size_append]; unfold maxLen; omega
              have q0 : ¬ 9223372036854775807 < out.size + s.size := by omega
              have q1 : ¬ 9223372036854775807 < out.size + 1 := by omega
              have q2 : ¬ 9223372036854775807 < out.size + 1 + s.size := by omega
              have HOS := Lib.hid hos
              have HK0 := Lib.hid (ok_ref HH0.out ts k out s)
              have HSL := Lib.hid (L.scanRef_len l (out ++ s))
              have HX2 := Lib.hid (HSC.out (out ++ s))
              have HJ2 := Lib.hid hj
              have HCt := Lib.hid hCt
              clear hst hj HJ hxx hCt hos
              go_wp2_with fail
              refine (HXS.out wr).mono ?_
              rintro e2 w2 ⟨rfl, hb2⟩
              have HB2 := Lib.hid (HB.out.trans (hb2.mono HB.out.size))
              have HCt2 := Lib.hid (HCt.out.below hb2)
              have y0 := (hb2.cell (p := ⟨b, o + k * 3, none⟩) hslt).trans x0
              have y1 := (hb2.cell (p := ⟨b, o + k * 3 + 1, none⟩) hslt).trans x1
              have y2 := (hb2.cell (p := ⟨b, o + k * 3 + 2, none⟩) hslt).trans x2
              have hslt2 := lt_of_cell y0
              clear hb2 x0 x1 x2 hslt
              go_wp2_with fail
              refine (HX2.out _ (Kd.C_below Hr.out HB2.out) HOS.out).mono ?_
              rintro e3 w3 ⟨v3, rfl, hm3, hb3⟩
              have HB3 := Lib.hid (HB2.out.trans (hb3.mono HB2.out.size))
              have HCt3 := Lib.hid (HCt2.out.below hb3)
              have z0 := (hb3.cell (p := ⟨b, o + k * 3, none⟩) hslt2).trans y0
              have z1 := (hb3.cell (p := ⟨b, o + k * 3 + 1, none⟩) hslt2).trans y1
              have z2 := (hb3.cell (p := ⟨b, o + k * 3 + 2, none⟩) hslt2).trans y2
              have hslt3 := lt_of_cell z0
              have hk1 := HK0.out
              have hsl := HSL.out
              generalize L.scanRef l (out ++ s) = X at hm3 hk1 hsl
              obtain ⟨xs, p3, e3⟩ := X
              obtain ⟨A3, c3, rfl, hc3⟩ := hm3.form
              have HM3 := Lib.hid (tok_tk hm3.read.2.2)
              clear hb3 y0 y1 y2 hslt2 hm3 HX2
              have hxl : (xs.map tk).length ≤ 1000000 := by rw [List.length_map]; rw [ByteArray.size_append] at hsl; simp only at hsl; omega
              have hml : (xs.map tk).length = xs.length := List.length_map _
              have HSM2 := Lib.hid (HSM.out _ S A3 (some ⟨b, o, none⟩) c3 d (xs.map tk) (ts.take (k + 1)) w3 HM3.out (HCt3.out.take (k + 1)) hxl htm)
              rw [hml, htl] at HSM2
              clear hml hxl htl htm
              by_cases he : e3 = 0
              · subst he
                have hk1 : okJ (kwp l) ts k out s = sameK (xs.map tk) (ts.take (k + 1)) := by rw [hk1]; simp [okR]
                cases hS : sameK (xs.map tk) (ts.take (k + 1)) with
                | true =>
                  rw [hS] at HSM2 hk1
                  clear hS
                  have hj := HJ2.out
                  rw [next_tight hk1] at hj
                  clear hk1 HJ2 HK0
                  by_cases hov : 40000 < out.size + s.size
                  · have gov : (40000 : Int) < (out.size : Int) + (s.size : Int) := by omega
                    rw [if_pos (by rw [ByteArray.size_append]; exact hov)] at hj
                    subst hj
                    clear hov
                    go_wp2_with fail
                    refine HSM2.out.mono ?_
                    rintro e4 w4 ⟨rfl, hb4⟩
                    have HB4 := Lib.hid (HB3.out.trans (hb4.mono HB3.out.size))
                    have u0 := (hb4.cell (p := ⟨b, o + k * 3, none⟩) hslt3).trans z0
                    have u1 := (hb4.cell (p := ⟨b, o + k * 3 + 1, none⟩) hslt3).trans z1
                    have u2 := (hb4.cell (p := ⟨b, o + k * 3 + 2, none⟩) hslt3).trans z2
                    clear hb4 z0 z1 z2
                    go_wp2_with fail
                    refine (HXS.out _).mono ?_
                    rintro e5 w5 ⟨rfl, hb5⟩
                    have HB9 := Lib.hid (HB4.out.trans (hb5.mono HB4.out.size))
                    clear hb5
                    go_wp2
                    go_ret2
                    exact ⟨rfl, HB9.out⟩
                  · have gov : ¬ (40000 : Int) < (out.size : Int) + (s.size : Int) := by omega
                    have hns : (out ++ s).size ≤ 40000 := by rw [ByteArray.size_append]; omega
                    rw [if_neg (by rw [ByteArray.size_append]; exact hov)] at hj
                    have HJ3 := Lib.hid hj
                    clear hov hj
                    go_wp2_with fail
                    refine HSM2.out.mono ?_
                    rintro e4 w4 ⟨rfl, hb4⟩
                    have HB4 := Lib.hid (HB3.out.trans (hb4.mono HB3.out.size))
                    have u0 := (hb4.cell (p := ⟨b, o + k * 3, none⟩) hslt3).trans z0
                    have u1 := (hb4.cell (p := ⟨b, o + k * 3 + 1, none⟩) hslt3).trans z1
                    have u2 := (hb4.cell (p := ⟨b, o + k * 3 + 2, none⟩) hslt3).trans z2
                    clear hb4 z0 z1 z2
                    go_wp2_with fail
                    refine (HXS.out _).mono ?_
                    rintro e5 w5 ⟨rfl, hb5⟩
                    have HB9 := Lib.hid (HB4.out.trans (hb5.mono HB4.out.size))
                    clear hb5
                    go_wp2
                    go_roundg (ts.length - (k + 1))
                    case measure => omega
                    case rel => exact ⟨k + 1, out ++ s, rfl, by go_num, Hlk.out, Nat.le_refl _, hns, HJ3, HB9⟩
                | false =>
                  rw [hS] at HSM2 hk1
                  clear hS
                  have hj := HJ2.out
                  rw [next_space hk1] at hj
                  clear hk1 HJ2 HK0
                  by_cases hov : 40000 < out.size + 1 + s.size
                  · have gov : (40000 : Int) < (out.size : Int) + 1 + (s.size : Int) := by omega
                    rw [if_pos (by rw [space_size]; exact hov)] at hj
                    subst hj
                    clear hov
                    go_wp2_with fail
                    refine HSM2.out.mono ?_
                    rintro e4 w4 ⟨rfl, hb4⟩
                    have HB4 := Lib.hid (HB3.out.trans (hb4.mono HB3.out.size))
                    have u0 := (hb4.cell (p := ⟨b, o + k * 3, none⟩) hslt3).trans z0
                    have u1 := (hb4.cell (p := ⟨b, o + k * 3 + 1, none⟩) hslt3).trans z1
                    have u2 := (hb4.cell (p := ⟨b, o + k * 3 + 2, none⟩) hslt3).trans z2
                    clear hb4 z0 z1 z2
                    go_wp2_with fail
                    refine (HXS.out _).mono ?_
                    rintro e5 w5 ⟨rfl, hb5⟩
                    have HB9 := Lib.hid (HB4.out.trans (hb5.mono HB4.out.size))
                    clear hb5
                    go_wp2
                    go_ret2
                    exact ⟨rfl, HB9.out⟩
                  · have gov : ¬ (40000 : Int) < (out.size : Int) + 1 + (s.size : Int) := by omega
                    have hns : (out ++ ⟨#[32]⟩ ++ s).size ≤ 40000 := by rw [space_size]; omega
                    rw [if_neg (by rw [space_size]; exact hov)] at hj
                    have HJ3 := Lib.hid hj
                    clear hov hj
                    go_wp2_with fail
                    refine HSM2.out.mono ?_
                    rintro e4 w4 ⟨rfl, hb4⟩
                    have HB4 := Lib.hid (HB3.out.trans (hb4.mono HB3.out.size))
                    have u0 := (hb4.cell (p := ⟨b, o + k * 3, none⟩) hslt3).trans z0
                    have u1 := (hb4.cell (p := ⟨b, o + k * 3 + 1, none⟩) hslt3).trans z1
                    have u2 := (hb4.cell (p := ⟨b, o + k * 3 + 2, none⟩) hslt3).trans z2
                    clear hb4 z0 z1 z2
                    go_wp2_with fail
                    refine (HXS.out _).mono ?_
                    rintro e5 w5 ⟨rfl, hb5⟩
                    have HB9 := Lib.hid (HB4.out.trans (hb5.mono HB4.out.size))
                    clear hb5
                    go_wp2
                    go_roundg (ts.length - (k + 1))
                    case measure => omega
                    case rel => exact ⟨k + 1, out ++ ⟨#[32]⟩ ++ s, rfl, by go_num, Hlk.out, Nat.le_refl _, hns, HJ3, HB9⟩
              · have ge : (e3 != 0) = true := bne_iff_ne.2 he
                have hk1 : okJ (kwp l) ts k out s = false := by rw [hk1]; simp [okR, he]
                clear he
                have hj := HJ2.out
                rw [next_space hk1] at hj
                clear hk1 HJ2 HK0
                by_cases hov : 40000 < out.size + 1 + s.size
                · have gov : (40000 : Int) < (out.size : Int) + 1 + (s.size : Int) := by omega
                  rw [if_pos (by rw [space_size]; exact hov)] at hj
                  subst hj
                  clear hov
                  go_wp2_with fail
                  refine (HXS.out _).mono ?_
                  rintro e5 w5 ⟨rfl, hb5⟩
                  have HB9 := Lib.hid (HB3.out.trans (hb5.mono HB3.out.size))
                  clear hb5
                  go_wp2
                  go_ret2
                  exact ⟨rfl, HB9.out⟩
                · have gov : ¬ (40000 : Int) < (out.size : Int) + 1 + (s.size : Int) := by omega
                  have hns : (out ++ ⟨#[32]⟩ ++ s).size ≤ 40000 := by rw [space_size]; omega
                  rw [if_neg (by rw [space_size]; exact hov)] at hj
                  have HJ3 := Lib.hid hj
                  clear hov hj
                  go_wp2_with fail
                  refine (HXS.out _).mono ?_
                  rintro e5 w5 ⟨rfl, hb5⟩
                  have HB9 := Lib.hid (HB3.out.trans (hb5.mono HB3.out.size))
                  clear hb5
                  go_wp2
                  go_roundg (ts.length - (k + 1))
                  case measure => omega
                  case rel => exact ⟨k + 1, out ++ ⟨#[32]⟩ ++ s, rfl, by go_num, Hlk.out, Nat.le_refl _, hns, HJ3, HB9⟩
            · have hlkz : ¬ (k : Int) < (ts.length : Int) := by omega
              have hj := HJ.out
              rw [List.drop_eq_nil_of_le (by omega)] at hj
              obtain rfl : (out, 0) = R := hj
              clear HJ
              go_wp2
              go_ret2
              exact ⟨rfl, HB.out⟩
  · rw [if_pos h0] at hR
    subst hR
    have g : (checkE l != 0) = true := bne_iff_ne.2 h0
    generalize checkE l = E at HC g
    clear h0
    go_enter Tryz.func15, Tryz.ntmps15
    go_wp2_with fail
    refine HC.out.mono ?_
    rintro e1 w1 ⟨rfl, hb1⟩
    have HB1 := Lib.hid hb1
    clear hb1
    go_wp2
    go_ret2
    exact ⟨rfl, HB1.out⟩
end Go.Proofs.YtmkfeanggmjhmaaGreat.Vw
namespace Go.Proofs.YtmkfeanggmjhmaaGreat.Vw
open Go Go.RowKit Go.Shelf Go.Proofs.YtmkfeanggmjhmaaGreatW.PrintWords Go.Proofs.YtmkfeanggmjhmaaGreatW.PrintLast Go.Proofs.YtmkfeanggmjhmaaGreatW.PrintMore
open Go.Proofs.YtmkfeanggmjhmaaGreat.M Go.Proofs.YtmkfeanggmjhmaaGreat.K Go.Proofs.YtmkfeanggmjhmaaGreat.E Go.Proofs.YtmkfeanggmjhmaaGreat.S Go.Proofs.YtmkfeanggmjhmaaGreat.Wr Go.Proofs.YtmkfeanggmjhmaaGreat.J
open Go.Proofs.YtmkfeanggmjhmaaGreat.G (Rd Mine Cells iso pair str int C)
set_option linter.unusedSimpArgs false
set_option linter.unusedVariables false

set_option maxRecDepth 100000 in
set_option maxHeartbeats 4000000 in
theorem TokenWrites_calls (A : Option Addr) (c : Nat) (l : List ByteArray) (hc : l.length ≤ c) (B : Option Addr) (d : Nat) (ts : List Tk) (hd : ts.length ≤ d) (w : World) (hr : Kd.C Kd.string w A l.length l) (hB : C kTk (fun _ => True) w B ts) :
    Calls Tryz.prog 4 #[.slice A l.length c, .slice B ts.length d] w fun r w' => r = .returned (.bool true) ∧ Below w.heap.size w w' := by
  have HF := Lib.hid (fun w hr => Few_calls 0 A c l hc ⟨#[]⟩ w hr)
  have HS := Lib.hid (fun w hr => small_calls (fun _ => True) B d ts hd w hr)
  have HA := Lib.hid awake_calls
  have Hr := Lib.hid hr
  have HB := Lib.hid hB
  clear hr hB
  cases hf : fewB 0 l ⟨#[]⟩ with
  | false =>
    rw [hf] at HF
    clear hf
    go_enter Tryz.func4, Tryz.ntmps4
    go_wp2_with (go_at_call 6; refine (HF.out _ Hr.out).mono ?_; rintro e w' ⟨rfl, rfl⟩)
    go_wp2_with fail
    refine (HA.out _).mono ?_
    rintro e w2 ⟨rfl, hb⟩
    go_wp2
    go_ret
    exact ⟨rfl, hb⟩
  | true =>
    rw [hf] at HF
    obtain ⟨hl20, _, hx⟩ := Pl.few_sizes hf
    clear hf
    cases hs : smallB ts with
    | false =>
      rw [hs] at HS
      clear hs
      go_enter Tryz.func4, Tryz.ntmps4
      go_wp2_with (go_at_call 6; refine (HF.out _ Hr.out).mono ?_; rintro e w' ⟨rfl, rfl⟩)
      go_wp2_with (go_at_call 11; refine (HS.out _ HB.out).mono ?_; rintro e w1 ⟨rfl, hb1⟩)
      go_wp2_with fail
      refine (HA.out _).mono ?_
      rintro e w2 ⟨rfl, hb⟩
      go_wp2
      go_ret
      exact ⟨rfl, hb1.trans (hb.mono hb1.size)⟩
    | true =>
      rw [hs] at HS
      obtain ⟨hn40, hts⟩ := small_sizes hs
      clear hs
      have hx12 : ∀ x ∈ l, x.size ≤ 1000000000000 := fun x h => Nat.le_trans (hx x h) (by decide)
      have hx9 : ∀ x ∈ l, x.size ≤ 1000000000 := fun x h => Nat.le_trans (hx x h) (by decide)
      have ht6 : ∀ x ∈ ts, x.2.1.size ≤ 1000000 := fun x h => Nat.le_trans (hts x h) (by decide)
      have HW1 := Lib.hid (fun k t q ht w hr => Write_calls A c l hx12 hc k t q ht w hr)
      have HW2 := Lib.hid (fun (k : Int) (t : ByteArray) (q : Int) (ht : t.size ≤ 1000000) w hr => rWrite_calls A c l hx9 hc k t q ht w hr)
      have HT := Lib.hid (fun w hr => tokens_calls (fun _ => True) B d ts w hr hd (by omega))
      have HJ1 := Lib.hid (fun E e he w hr hE => Join_calls A c l hx12 hc E e ts he ht6 (by omega) w hr hE)
      have HJ2 := Lib.hid (fun w hr hr2 => rJoin_calls (fun _ => True) A c l hx9 hc B d ts hd ht6 w hr hr2)
      generalize joinAll l ts = R at HJ1 HJ2
      clear hx hx12 hx9 hts
      go_enter Tryz.func4, Tryz.ntmps4
      go_wp2_with (go_at_call 6; refine (HF.out _ Hr.out).mono ?_; rintro e w' ⟨rfl, rfl⟩)
      go_wp2_with (go_at_call 11; refine (HS.out _ HB.out).mono ?_; rintro e w1 ⟨rfl, hb1⟩)
      have Hb1 := Lib.hid hb1
      have Hr1 := Lib.hid (Kd.C_below Hr.out hb1)
      have HB1 := Lib.hid (HB.out.below hb1)
      clear hb1
      go_loopg [26] ts.length (fun gg v wr => ∃ i : Nat, v = .int .i64 i ∧ i ≤ ts.length ∧ ts.length - i ≤ gg ∧ Hid (Below w1.heap.size w1 wr))
      case atStart => exact ⟨0, by go_num, Nat.zero_le _, Nat.le_refl _, Lib.hid (Below.refl _ _)⟩
      case round =>
        obtain ⟨i, rfl, hi, hgg, HBl⟩ := hrel
        by_cases hlt : i < ts.length
        · have hltz : (i : Int) < (ts.length : Int) := by omega
          have hxs := ht6 _ (List.getElem_mem hlt)
          obtain ⟨b, o, rfl, _, x0, x1, x2⟩ := tk_at (HB1.out.below HBl.out) i hlt
          generalize ts[i]'hlt = x at x0 x1 x2 hxs
          have hal : Below wr.heap.size wr (wr.alloc (.cells #[.int .i64 x.1, .string x.2.1, .int .i64 x.2.2] 37)) := (Below.refl _ wr).alloc (Nat.le_refl _) _
          have HV1 := Lib.hid (HW1.out x.1 x.2.1 x.2.2 hxs _ (Kd.C_below (Kd.C_below Hr1.out HBl.out) hal))
          have HV2 := Lib.hid (HW2.out x.1 x.2.1 x.2.2 hxs)
          generalize writeAll l x.1 x.2.1 = V at HV1 HV2
          have Hal := Lib.hid hal
          clear hal
          go_wp2_with fail
          refine HV1.out.mono ?_
          rintro e w5 ⟨rfl, hb5⟩
          have hz : wr.heap.size < (wr.alloc (.cells #[.int .i64 x.1, .string x.2.1, .int .i64 x.2.2] 37)).heap.size := by simp
          have hh5 : w5.heap[wr.heap.size]? = some (.cells #[.int .i64 x.1, .string x.2.1, .int .i64 x.2.2] 37 (0, 0)) := (hb5.block _ hz).trans (World.alloc_heap_new _ _)
          have y0 : w5.cell? ⟨wr.heap.size, 0, none⟩ = some (.int .i64 x.1) := by rw [Lib.cell_of_heap hh5]; rfl
          have y1 : w5.cell? ⟨wr.heap.size, 1, none⟩ = some (.string x.2.1) := by rw [Lib.cell_of_heap hh5]; rfl
          have y2 : w5.cell? ⟨wr.heap.size, 2, none⟩ = some (.int .i64 x.2.2) := by rw [Lib.cell_of_heap hh5]; rfl
          have hb6 : Below wr.heap.size wr w5 := Hal.out.trans (hb5.mono (by simp))
          have HV3 := Lib.hid (HV2.out w5 (Kd.C_below (Kd.C_below Hr1.out HBl.out) hb6))
          have Hb6 := Lib.hid hb6
          clear hb5 hb6 hh5 hz HV2
          go_wp2_with fail
          refine HV3.out.mono ?_
          rintro e w6 ⟨rfl, hb7⟩
          go_wp2
          go_roundg (ts.length - (i + 1))
          case measure => omega
          case rel => exact ⟨i + 1, by go_num, by omega, Nat.le_refl _, Lib.hid (HBl.out.trans ((Hb6.out.trans (hb7.mono Hb6.out.size)).mono HBl.out.size))⟩
        · have hltz : ¬ (i : Int) < (ts.length : Int) := by omega
          have HrW := Lib.hid (Kd.C_below Hr1.out HBl.out)
          have HBW := Lib.hid (HB1.out.below HBl.out)
          go_wp2_with fail
          refine (HT.out _ HBW.out).mono ?_
          rintro e w7 ⟨v, rfl, hv, hb7⟩
          obtain ⟨E, ce, rfl, hce, hE⟩ := own_cells hv
          have HE := Lib.hid hE
          have Hr7 := Lib.hid (Kd.C_below HrW.out hb7)
          have HB7 := Lib.hid (HBW.out.below hb7)
          clear hv hE
          go_wp2_with fail
          refine (HJ1.out _ _ hce _ Hr7.out HE.out).mono ?_
          rintro e w8 ⟨rfl, hb8⟩
          have Hr8 := Lib.hid (Kd.C_below Hr7.out hb8)
          have HB8 := Lib.hid (HB7.out.below hb8)
          go_wp2_with fail
          refine (HJ2.out _ Hr8.out HB8.out).mono ?_
          rintro e w9 ⟨rfl, hb9⟩
          go_wp2_with fail
          refine (HA.out _).mono ?_
          rintro e w10 ⟨rfl, hb10⟩
          go_wp2
          go_ret
          have q1 := Hb1.out.size
          have q2 := HBl.out.size
          have q3 := hb7.size
          have q4 := hb8.size
          have q5 := hb9.size
          exact ⟨rfl, (((((Hb1.out.trans (HBl.out.mono q1)).trans (hb7.mono (by omega))).trans (hb8.mono (by omega))).trans (hb9.mono (by omega))).trans (hb10.mono (by omega)))⟩
end Go.Proofs.YtmkfeanggmjhmaaGreat.Vw
