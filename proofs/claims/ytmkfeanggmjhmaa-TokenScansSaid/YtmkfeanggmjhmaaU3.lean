/- The printed reference of tokens is the plain scanner: blanks, strings, quotations, indices. -/
import Derived.Test.YtmkfeanggmjhmaaU1
import Derived.Lib.Hide
namespace Go.Proofs.Ytmkfeanggmjhmaa.L
set_option linter.unusedSimpArgs false
set_option linter.unusedVariables false
open Go Go.RowKit Go.Proofs.YtmkfeanggmjhmaaW.PrintWords Go.Proofs.YtmkfeanggmjhmaaW.PrintLast Go.Proofs.YtmkfeanggmjhmaaW.PrintMore
open Go.Proofs.Ytmkfeanggmjhmaa.M Go.Proofs.Ytmkfeanggmjhmaa.E Go.Proofs.Ytmkfeanggmjhmaa.PTokenScans

def blP : Except Nat Nat → Int × Int
  | .ok j => (j, 0)
  | .error p => (p, 162)
theorem blanksE_blank (s : ByteArray) (i : Nat) (h : i < s.size) (hb : blankB (bt s i) = true) : blanksE s i = blanksE s (i + 1) := by
  have hw := whileE_hit blankB s i h hb
  have h2 := whileE_le blankB s (i + 1) (by omega)
  by_cases hp : preAt s (whileE blankB s (i + 1)) [40, 42] = true
  · cases hn : nestE s [40, 42] [42, 41] (whileE blankB s (i + 1)) 0 with
    | none => rw [blanksE_err s (i + 1) hp hn, blanksE_err s i (by rw [hw]; exact hp) (by rw [hw]; exact hn), hw]
    | some e => rw [blanksE_step s (i + 1) (by omega) hp hn, blanksE_step s i (by omega) (by rw [hw]; exact hp) (by rw [hw]; exact hn)]
  · rw [blanksE_none s (i + 1) (Bool.eq_false_iff.2 hp), blanksE_none s i (by rw [hw]; exact Bool.eq_false_iff.2 hp), hw]
theorem beq_iff (c d : Int) : (c == d) = decide (c = d) := by
  by_cases h : c = d
  · rw [decide_eq_true h]; exact beq_iff_eq.2 h
  · rw [decide_eq_false h]; exact beq_eq_false_iff_ne.2 h

theorem nest_loop (s : ByteArray) (hs : s.size ≤ 1000000000) (i0 : Nat) (R : Int × Int) : ∀ d (deep j : Nat), s.size - j ≤ d → 1 ≤ deep → deep ≤ j → j ≤ 2000000000 →
    (match nestE s [40, 42] [42, 41] j (deep : Int) with | none => R = ((i0 : Int), (162 : Int)) | some e => Evt (fun k => triforiumref14_blanks.l0 k s (e : Int)) R) → Evt (fun k => triforiumref14_blanks.l1 k s i0 deep j) R := by
  intro d
  induction d with
  | zero =>
    intro deep j hd h1 hdj hj h
    rw [nestE_end _ _ _ _ _ (by omega)] at h
    simp only at h
    rw [h]
    refine Evt.succ (fun k => rfl) ?_
    exact Evt.tt (by omega) (Evt.tt (by omega) (Evt.const _))
  | succ d ih =>
    intro deep j hd h1 hdj hj h
    by_cases hlt : j < s.size
    · refine Evt.succ (fun k => rfl) ?_
      refine Evt.tt (by omega) (Evt.ff (by omega) ?_)
      have eb : (⟨#[40, 42]⟩ : ByteArray).data.toList = [40, 42] := rfl
      have ee : (⟨#[42, 41]⟩ : ByteArray).data.toList = [42, 41] := rfl
      refine Evt.bind (Evt.of _ (starts_eq s (by omega) j (by omega) ⟨#[40, 42]⟩ (by decide))) ?_
      rw [eb]
      by_cases hb : preAt s j [40, 42] = true
      · refine Evt.tt hb ?_
        have hD : stepD s [40, 42] [42, 41] j = 1 := by unfold stepD; rw [if_pos hb]
        have hW : stepW s [40, 42] [42, 41] j = 2 := by unfold stepW; rw [if_pos hb]; rfl
        rw [nestE_step _ _ _ (by decide) (by decide) _ _ hlt (by rw [hD]; omega), hD, hW] at h
        have e1 : wrap64 ((deep : Int) + 1) = ((deep + 1 : Nat) : Int) := w64 (by omega) (by omega)
        have e2 : wrap64 ((j : Int) + 2) = ((j + 2 : Nat) : Int) := w64 (by omega) (by omega)
        rw [e1, e2]
        exact ih (deep + 1) (j + 2) (by omega) (by omega) (by omega) (by omega) h
      · refine Evt.ff hb ?_
        refine Evt.bind (Evt.of _ (starts_eq s (by omega) j (by omega) ⟨#[42, 41]⟩ (by decide))) ?_
        rw [ee]
        by_cases he : preAt s j [42, 41] = true
        · refine Evt.tt he ?_
          have hD : stepD s [40, 42] [42, 41] j = -1 := by unfold stepD; rw [if_neg hb, if_pos he]
          have hW : stepW s [40, 42] [42, 41] j = 2 := by unfold stepW; rw [if_neg hb, if_pos he]; rfl
          have e1 : wrap64 ((deep : Int) - 1) = ((deep - 1 : Nat) : Int) := (w64 (x := (deep : Int) - 1) (by omega) (by omega)).trans (by omega)
          have e2 : wrap64 ((j : Int) + 2) = ((j + 2 : Nat) : Int) := w64 (by omega) (by omega)
          rw [e1, e2]
          by_cases hz : deep = 1
          · rw [nestE_stop _ _ _ _ _ hlt (by rw [hD]; omega), hW] at h
            simp only at h
            refine Evt.succ (fun k => rfl) ?_
            exact Evt.ff (by omega) h
          · rw [nestE_step _ _ _ (by decide) (by decide) _ _ hlt (by rw [hD]; omega), hD, hW] at h
            have e3 : (deep : Int) + -1 = ((deep - 1 : Nat) : Int) := by omega
            rw [e3] at h
            exact ih (deep - 1) (j + 2) (by omega) (by omega) (by omega) (by omega) h
        · refine Evt.ff he ?_
          have hD : stepD s [40, 42] [42, 41] j = 0 := by unfold stepD; rw [if_neg hb, if_neg he]
          have hW : stepW s [40, 42] [42, 41] j = 1 := by unfold stepW; rw [if_neg hb, if_neg he]
          rw [nestE_step _ _ _ (by decide) (by decide) _ _ hlt (by rw [hD]; omega), hD, hW, Int.add_zero] at h
          have e2 : wrap64 ((j : Int) + 1) = ((j + 1 : Nat) : Int) := w64 (by omega) (by omega)
          rw [e2]
          exact ih deep (j + 1) (by omega) (by omega) (by omega) (by omega) h
    · rw [nestE_end _ _ _ _ _ (by omega)] at h
      simp only at h
      rw [h]
      refine Evt.succ (fun k => rfl) ?_
      exact Evt.tt (by omega) (Evt.tt (by omega) (Evt.const _))

theorem blanks_loop (s : ByteArray) (hs : s.size ≤ 1000000000) : ∀ d i : Nat, s.size - i ≤ d → i ≤ s.size → Evt (fun k => triforiumref14_blanks.l0 k s i) (blP (blanksE s i)) := by
  intro d
  induction d with
  | zero =>
    intro i hd hi
    obtain rfl : i = s.size := by omega
    refine Evt.succ (fun k => rfl) ?_
    refine (Evt.ff (by omega) (Evt.const _)).eq ?_
    rw [blanksE_none s s.size (by
      rw [whileE_end _ _ _ (Nat.le_refl _), Bool.eq_false_iff]
      intro h
      have := preAt_le h (Nat.le_refl _)
      simp at this; omega), whileE_end _ _ _ (Nat.le_refl _)]
    rfl
  | succ d ih =>
    intro i hd hi
    by_cases hlt : i < s.size
    · refine Evt.succ (fun k => rfl) ?_
      refine Evt.tt (by omega) (Evt.tt (by omega) ?_)
      have e1 : wrap64 ((i : Int) + 1) = ((i + 1 : Nat) : Int) := w64 (by omega) (by omega)
      have e2 : wrap64 ((i : Int) + 2) = ((i + 2 : Nat) : Int) := w64 (by omega) (by omega)
      have hT : blankB (bt s i) = true → Evt (fun k => triforiumref14_blanks.j1 k s i true) (blP (blanksE s i)) := by
        intro hb
        have := ih (i + 1) (by omega) (by omega)
        rw [blanksE_blank s i hlt hb]
        refine Evt.succ (g := fun k => triforiumref14_blanks.l0 k s (wrap64 ((i : Int) + 1))) (fun k => rfl) ?_
        rw [e1]
        exact this
      by_cases h1 : bt s i = 32
      · exact Evt.tt h1 (hT (by unfold blankB; rw [h1]; rfl))
      · refine Evt.ff h1 ?_
        by_cases h2 : bt s i = 9
        · exact Evt.tt h2 (hT (by unfold blankB; rw [h2]; rfl))
        · refine Evt.ff h2 ?_
          by_cases h3 : bt s i = 10
          · exact Evt.tt h3 (hT (by unfold blankB; rw [h3]; rfl))
          · refine Evt.ff h3 ?_
            by_cases h4 : bt s i = 13
            · rw [beq_iff_eq.2 h4]
              exact hT (by unfold blankB; rw [h4]; rfl)
            · rw [beq_eq_false_iff_ne.2 h4]
              have hb : blankB (bt s i) = false := by unfold blankB; exact decide_eq_false (by omega)
              have hw := whileE_miss blankB s i hlt hb
              refine Evt.succ (fun k => rfl) ?_
              refine Evt.ff (g := fun k => triforiumref14_blanks.l0 k s (wrap64 ((i : Int) + 1))) (c := false = true) (by decide) ?_
              refine Evt.bind (Evt.of _ (starts_eq s (by omega) i (by omega) ⟨#[40, 42]⟩ (by decide))) ?_
              have eb : (⟨#[40, 42]⟩ : ByteArray).data.toList = [40, 42] := rfl
              rw [eb]
              by_cases hp : preAt s i [40, 42] = true
              · refine Evt.tt hp ?_
                rw [e2]
                have hle := preAt_le hp (by omega)
                simp only [List.length_cons, List.length_nil] at hle
                have hD : stepD s [40, 42] [42, 41] i = 1 := by unfold stepD; rw [if_pos hp]
                have hW : stepW s [40, 42] [42, 41] i = 2 := by unfold stepW; rw [if_pos hp]; rfl
                have hne : nestE s [40, 42] [42, 41] i 0 = nestE s [40, 42] [42, 41] (i + 2) 1 := by
                  rw [nestE_step _ _ _ (by decide) (by decide) _ _ hlt (by rw [hD]; omega), hD, hW]; rfl
                refine nest_loop s hs i _ _ 1 (i + 2) (Nat.le_refl _) (by omega) (by omega) (by omega) ?_
                show match nestE s [40, 42] [42, 41] (i + 2) 1 with | none => _ | some e => _
                rw [← hne]
                cases hn : nestE s [40, 42] [42, 41] i 0 with
                | none =>
                  simp only
                  rw [blanksE_err s i (by rw [hw]; exact hp) (by rw [hw]; exact hn), hw]
                  rfl
                | some e =>
                  simp only
                  have hl := nestE_le (by omega) hn
                  have hg := nestE_lt (by decide) (by decide) (by omega) hn
                  rw [blanksE_step s i (by omega) (by rw [hw]; exact hp) (by rw [hw]; exact hn)]
                  exact ih e (by omega) hl.2
              · refine (Evt.ff hp (Evt.const _)).eq ?_
                rw [blanksE_none s i (by rw [hw]; exact Bool.eq_false_iff.2 hp), hw]
                rfl
    · obtain rfl : i = s.size := by omega
      refine Evt.succ (fun k => rfl) ?_
      refine (Evt.ff (by omega) (Evt.const _)).eq ?_
      rw [blanksE_none s s.size (by
        rw [whileE_end _ _ _ (Nat.le_refl _), Bool.eq_false_iff]
        intro h
        have := preAt_le h (Nat.le_refl _)
        simp at this; omega), whileE_end _ _ _ (Nat.le_refl _)]
      rfl
theorem blanks_ev (s : ByteArray) (hs : s.size ≤ 1000000000) (i : Nat) (hi : i ≤ s.size) : Evt (fun k => triforiumref14_blanks.f k s i) (blP (blanksE s i)) := blanks_loop s hs _ i (Nat.le_refl _) hi

def txP (i : Nat) : Option (List UInt8 × Nat) → Int × ByteArray × Int × Int × Int
  | some (l, j) => (8, ⟨l.toArray⟩, i, j, 0)
  | none => (0, ⟨#[]⟩, 0, i, 161)
theorem app_one (s : ByteArray) (out : List UInt8) (j : Nat) (h : j < s.size) : (⟨out.toArray⟩ : ByteArray) ++ s.extract j (j + 1) = ⟨(out ++ [(bt s j).toNat.toUInt8]).toArray⟩ := by
  have hb : (bt s j).toNat.toUInt8 = s[j]'h := by rw [bt_nat s j h, Int.toNat_natCast]; simp
  rw [hb]
  apply ByteArray.ext
  apply Array.ext'
  simp only [ByteArray.data_append, ByteArray.data_extract, Array.toList_append, Array.toList_extract, List.extract_eq_take_drop, Nat.add_sub_cancel_left]
  congr 1
  have hl : j < s.data.toList.length := h
  rw [List.drop_eq_getElem_cons hl, List.take_succ_cons, List.take_zero]
  rfl
theorem app_lit (out : List UInt8) : (⟨out.toArray⟩ : ByteArray) ++ (⟨#[10]⟩ : ByteArray) = ⟨(out ++ [10]).toArray⟩ := by
  apply ByteArray.ext
  apply Array.ext'
  simp
end Go.Proofs.Ytmkfeanggmjhmaa.L
namespace Go.Proofs.Ytmkfeanggmjhmaa.L
set_option linter.unusedSimpArgs false
set_option linter.unusedVariables false
open Go Go.RowKit Go.Proofs.YtmkfeanggmjhmaaW.PrintWords Go.Proofs.YtmkfeanggmjhmaaW.PrintLast Go.Proofs.YtmkfeanggmjhmaaW.PrintMore
open Go.Proofs.Ytmkfeanggmjhmaa.M Go.Proofs.Ytmkfeanggmjhmaa.E Go.Proofs.Ytmkfeanggmjhmaa.PTokenScans

def quP (i : Nat) (s : ByteArray) : Option Nat → Int × ByteArray × Int × Int × Int
  | some e => (9, s.extract (i + 7) (e - 8), i, e, 0)
  | none => (0, ⟨#[]⟩, 0, i, 161)
theorem preAt_cons (s : ByteArray) (i : Nat) (h : i < s.size) (c : UInt8) (t : List UInt8) : preAt s i (c :: t) = (decide (bt s i = (c.toNat : Int)) && preAt s (i + 1) t) := by
  unfold preAt
  have hl : i < s.data.toList.length := h
  rw [List.drop_eq_getElem_cons hl, List.isPrefixOf, bt_nat s i h]
  congr 1
  have e : s.data.toList[i]'hl = s[i]'h := rfl
  rw [e]
  by_cases he : c = s[i]'h
  · subst he
    simp
  · rw [beq_eq_false_iff_ne.2 he]
    symm
    rw [decide_eq_false_iff_not]
    intro e
    apply he
    apply UInt8.toNat_inj.1
    omega
theorem preAt_first {s : ByteArray} {i : Nat} {c : UInt8} {t : List UInt8} (h : i < s.size) (hp : preAt s i (c :: t) = true) : bt s i = (c.toNat : Int) := by
  rw [preAt_cons s i h] at hp
  simp only [Bool.and_eq_true, decide_eq_true_eq] at hp
  exact hp.1
theorem preAt_nil (s : ByteArray) (i : Nat) : preAt s i [] = true := by unfold preAt; simp [List.isPrefixOf]
theorem preAt_one (s : ByteArray) (i : Nat) (h : i < s.size) (c : UInt8) : preAt s i [c] = decide (bt s i = (c.toNat : Int)) := by
  rw [preAt_cons s i h, preAt_nil, Bool.and_true]

theorem ident_none {s : ByteArray} {i : Nat} (h : letterB (bt s i) = false) : identE s i = i := by
  unfold identE; split
  · rw [if_neg (by rw [h]; decide)]
  · rfl
theorem ident_some {s : ByteArray} {i : Nat} (hi : i < s.size) (h : letterB (bt s i) = true) : i < identE s i := by
  unfold identE
  rw [if_pos hi, if_pos h, whileE_hit identB s i hi (by unfold identB; rw [h]; rfl)]
  exact whileE_ge _ _ _
theorem names_none {s : ByteArray} {i : Nat} (h : letterB (bt s i) = false) : namesE s i = (1, i) := by
  unfold namesE; rw [ident_none h, if_neg (by omega)]
theorem mark_none {s : ByteArray} {i : Nat} (hi : i < s.size) {c : UInt8} {t : List UInt8} (h : bt s i ≠ (c.toNat : Int)) : markE s i (c :: t) = none := by
  unfold markE
  rw [if_neg]
  intro hp
  exact h (preAt_first hi hp)
theorem vars_none {s : ByteArray} {i : Nat} (hi : i < s.size) (h1 : bt s i ≠ 39) (h2 : bt s i ≠ 63) : varsE s i = (0, i) := by
  unfold varsE
  rw [mark_none hi (c := 39) h1, mark_none hi (c := 63) h2, mark_none hi (c := 63) h2]
theorem digits_none {s : ByteArray} {i : Nat} (hi : i < s.size) (h : digitB (bt s i) = false) : whileE digitB s i = i := whileE_miss _ _ _ hi h
theorem named_none {s : ByteArray} {i : Nat} (hi : i < s.size) (h : bt s i ≠ 92) : namedE s i = i := by
  unfold namedE
  rw [if_neg]
  intro hp
  exact h (preAt_first hi hp)
theorem run_none {s : ByteArray} {i : Nat} (hi : i < s.size) (h : signB (bt s i) = false) : runE s i = i := whileE_miss _ _ _ hi h
theorem sym_none {s : ByteArray} {i : Nat} (hi : i < s.size) (h1 : bt s i ≠ 92) (h2 : signB (bt s i) = false) (h3 : pointB (bt s i) = false) : symE s i = i := by
  unfold symE
  rw [named_none hi h1, run_none hi h2, Nat.max_self, if_pos rfl, if_neg (by rw [h3]; decide)]
theorem best_eq (s : ByteArray) (i : Nat) : bestE s i 4 = (
    let a : Int × Nat := if i < (namesE s i).2 then namesE s i else (0, i)
    let b := if a.2 < (varsE s i).2 then varsE s i else a
    let c := if b.2 < whileE digitB s i then (6, whileE digitB s i) else b
    if c.2 < symE s i then (7, symE s i) else c) := rfl
end Go.Proofs.Ytmkfeanggmjhmaa.L
