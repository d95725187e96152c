/- The printed reference of tokens is the plain scanner: the token without keywords at a place is the longest one. -/
import Derived.Test.YtmkfeanggmjhmaaL3
namespace Go.Proofs.Ytmkfeanggmjhmaa.L
open Go Go.RowKit Go.Proofs.YtmkfeanggmjhmaaW.PrintWords Go.Proofs.YtmkfeanggmjhmaaW.PrintLast Go.Proofs.YtmkfeanggmjhmaaW.PrintMore
open Go.Proofs.Ytmkfeanggmjhmaa.M Go.Proofs.Ytmkfeanggmjhmaa.E Go.Proofs.Ytmkfeanggmjhmaa.PTokenScans

theorem sign_iff (c : Int) (h0 : 0 ≤ c) (h1 : c ≤ 255) : signB c = true ↔ (33 = c ∨ 35 = c ∨ 36 = c ∨ 37 = c ∨ 38 = c ∨ 42 = c ∨ 43 = c ∨ 45 = c ∨ 47 = c ∨ 58 = c ∨ 60 = c ∨ 61 = c ∨ 62 = c ∨ 64 = c ∨ 94 = c ∨ 124 = c ∨ 126 = c) := by
  rw [sign_has c h0 h1]
  unfold hasB signT
  simp only [List.any_cons, List.any_nil, Bool.or_false, Bool.or_eq_true, decide_eq_true_eq]
  exact Iff.rfl
theorem point_iff (c : Int) (h0 : 0 ≤ c) (h1 : c ≤ 255) : pointB c = true ↔ (40 = c ∨ 41 = c ∨ 91 = c ∨ 93 = c ∨ 123 = c ∨ 125 = c ∨ 44 = c ∨ 59 = c ∨ 46 = c) := by
  rw [point_has c h0 h1]
  unfold hasB pointT
  simp only [List.any_cons, List.any_nil, Bool.or_false, Bool.or_eq_true, decide_eq_true_eq]
  exact Iff.rfl
theorem letter_iff (c : Int) : letterB c = true ↔ (97 ≤ c ∧ c ≤ 122 ∨ 65 ≤ c ∧ c ≤ 90 ∨ c = 95) := by unfold letterB; exact decide_eq_true_iff
theorem digit_iff (c : Int) : digitB c = true ↔ (48 ≤ c ∧ c ≤ 57) := by unfold digitB; exact decide_eq_true_iff
theorem sign_no {c : Int} (h0 : 0 ≤ c) (h1 : c ≤ 255) (h : ¬ (33 = c ∨ 35 = c ∨ 36 = c ∨ 37 = c ∨ 38 = c ∨ 42 = c ∨ 43 = c ∨ 45 = c ∨ 47 = c ∨ 58 = c ∨ 60 = c ∨ 61 = c ∨ 62 = c ∨ 64 = c ∨ 94 = c ∨ 124 = c ∨ 126 = c)) : signB c = false :=
  Bool.eq_false_iff.2 (fun e => h ((sign_iff c h0 h1).1 e))
theorem point_no {c : Int} (h0 : 0 ≤ c) (h1 : c ≤ 255) (h : ¬ (40 = c ∨ 41 = c ∨ 91 = c ∨ 93 = c ∨ 123 = c ∨ 125 = c ∨ 44 = c ∨ 59 = c ∨ 46 = c)) : pointB c = false :=
  Bool.eq_false_iff.2 (fun e => h ((point_iff c h0 h1).1 e))
theorem letter_no {c : Int} (h : ¬ (97 ≤ c ∧ c ≤ 122 ∨ 65 ≤ c ∧ c ≤ 90 ∨ c = 95)) : letterB c = false := Bool.eq_false_iff.2 (fun e => h ((letter_iff c).1 e))
theorem digit_no {c : Int} (h : ¬ (48 ≤ c ∧ c ≤ 57)) : digitB c = false := Bool.eq_false_iff.2 (fun e => h ((digit_iff c).1 e))

/-- a reading that is as good as the best one -/
def Good (s : ByteArray) (i : Nat) (r : Int × Nat) : Prop := r.2 = (bestE s i 4).2 ∧ (r.2 ≠ i → r.1 = (bestE s i 4).1)

theorem words_loop (s : ByteArray) (hs : s.size ≤ 1000000000) : ∀ d (e : Nat) (kd : Int), s.size - e ≤ d → e ≤ s.size → Evt (fun k => triforiumref14_plain.l0 k s (e : Int) kd) ((wordE s kd e).1, ((wordE s kd e).2 : Int)) := by
  intro d
  induction d using Nat.strongRecOn with
  | _ d ih =>
    intro e kd hd he
    by_cases hlt : e < s.size
    · refine Evt.succ (fun k => rfl) ?_
      refine Evt.tt (by omega) (Evt.tt (by omega) ?_)
      by_cases h46 : bt s e = 46
      · refine Evt.tt h46 ?_
        have e1 : wrap64 ((e : Int) + 1) = ((e + 1 : Nat) : Int) := w64 (by omega) (by omega)
        simp only [e1]
        clear e1
        refine Evt.bind (ident_ev s (e + 1) (by omega) (by omega)) ?_
        have h1 := identE_ge s (e + 1)
        have h2 := identE_le s (e + 1) (by omega)
        by_cases hi : identE s (e + 1) = e + 1
        · refine (Evt.ff (by omega) (Evt.const _)).eq ?_
          rw [wordE_stop s kd e hlt hi]
        · refine Evt.tt (by omega) ?_
          refine Evt.bind (ident_ev s (e + 1) (by omega) (by omega)) ?_
          rw [wordE_step s kd e hlt h46 hi]
          exact ih (s.size - identE s (e + 1)) (by omega) _ 2 (Nat.le_refl _) h2
      · refine (Evt.ff h46 (Evt.const _)).eq ?_
        rw [wordE_dot s kd e hlt h46]
    · refine Evt.succ (fun k => rfl) ?_
      refine (Evt.ff (by omega) (Evt.const _)).eq ?_
      rw [wordE_end s kd e (by omega)]


section
variable (k : Nat) (s : ByteArray) (i c : Int)
theorem j1_t : triforiumref14_plain.j1 (k + 1) s i c true = (triforiumref14_ident.f k s (wrap64 (i + 1))).bind fun t131 => (some (3, t131)) := by rw [triforiumref14_plain.j1, if_pos rfl]
theorem j1_f : triforiumref14_plain.j1 (k + 1) s i c false = if c = 63 then ((triforiumref14_ident.f k s (wrap64 (i + 1))).bind fun t132 => (triforiumref14_plain.j2 k s i c (decide (t132 > (wrap64 (i + 1)))))) else (triforiumref14_plain.j2 k s i c false) := by rw [triforiumref14_plain.j1, if_neg (by decide)]
theorem j2_t : triforiumref14_plain.j2 (k + 1) s i c true = (triforiumref14_ident.f k s (wrap64 (i + 1))).bind fun t133 => ((triforiumref14_index.f k s t133).bind fun t134 => (some (4, t134))) := by rw [triforiumref14_plain.j2, if_pos rfl]
theorem j2_f : triforiumref14_plain.j2 (k + 1) s i c false = (triforiumref14_starts.f s i (⟨#[63, 39]⟩ : ByteArray)).bind fun t135 => (if t135 = true then ((triforiumref14_ident.f k s (wrap64 (i + 2))).bind fun t136 => (triforiumref14_plain.j3 k s i c (decide (t136 > (wrap64 (i + 2)))))) else (triforiumref14_plain.j3 k s i c false)) := by rw [triforiumref14_plain.j2, if_neg (by decide)]
theorem j3_t : triforiumref14_plain.j3 (k + 1) s i c true = (triforiumref14_ident.f k s (wrap64 (i + 2))).bind fun t137 => ((triforiumref14_index.f k s t137).bind fun t138 => (some (5, t138))) := by rw [triforiumref14_plain.j3, if_pos rfl]
theorem j3_f : triforiumref14_plain.j3 (k + 1) s i c false = (triforiumref14_digit.f c).bind fun t139 => (if t139 = true then ((triforiumref14_run.f k s i (⟨#[48, 49, 50, 51, 52, 53, 54, 55, 56, 57]⟩ : ByteArray)).bind fun t140 => (some (6, t140))) else ((triforiumref14_has.f k (⟨#[33, 35, 36, 37, 38, 42, 43, 45, 47, 58, 60, 61, 62, 64, 94, 124, 126]⟩ : ByteArray) c).bind fun t141 => (if t141 = true then ((triforiumref14_run.f k s i (⟨#[33, 35, 36, 37, 38, 42, 43, 45, 47, 58, 60, 61, 62, 64, 94, 124, 126]⟩ : ByteArray)).bind fun t142 => (some (7, t142))) else ((triforiumref14_has.f k (⟨#[40, 41, 91, 93, 123, 125, 44, 59, 46]⟩ : ByteArray) c).bind fun t143 => (if t143 = true then (some (7, wrap64 (i + 1))) else ((triforiumref14_named.f k s i).bind fun t144 => (some (7, t144)))))))) := by rw [triforiumref14_plain.j3, if_neg (by decide)]
end
/-- what is read where there is no name and no variable -/
def tailV (s : ByteArray) (i : Nat) : Int × Nat := if digitB (bt s i) then (6, whileE digitB s i) else if signB (bt s i) then (7, runE s i) else if pointB (bt s i) then (7, i + 1) else (7, namedE s i)
def castP (r : Int × Nat) : Int × Int := (r.1, (r.2 : Int))

theorem j3_false (s : ByteArray) (hs : s.size ≤ 1000000000) (i : Nat) (hi : i < s.size) : Evt (fun k => triforiumref14_plain.j3 k s i (bt s i) false) (castP (tailV s i)) := by
  refine Evt.succ (fun k => j3_f k s i (bt s i)) ?_
  refine Evt.bind (Evt.of _ (digit_eq _)) ?_
  unfold tailV
  have hr := bt_range s i
  by_cases h1 : digitB (bt s i) = true
  · rw [if_pos h1]
    refine Evt.tt h1 ?_
    refine Evt.bind (digits_ev s (by omega) i (by omega)) ?_
    exact Evt.const _
  · rw [if_neg h1]
    refine Evt.ff h1 ?_
    refine Evt.bind (has_ev signT (bt s i) (by decide)) ?_
    rw [← sign_has _ hr.1 hr.2]
    by_cases h2 : signB (bt s i) = true
    · rw [if_pos h2]
      refine Evt.tt h2 ?_
      refine Evt.bind (signs_ev s (by omega) i (by omega)) ?_
      exact Evt.const _
    · rw [if_neg h2]
      refine Evt.ff h2 ?_
      refine Evt.bind (has_ev pointT (bt s i) (by decide)) ?_
      rw [← point_has _ hr.1 hr.2]
      by_cases h3 : pointB (bt s i) = true
      · rw [if_pos h3]
        refine Evt.tt h3 ?_
        rw [w64 (x := (i : Int) + 1) (by omega) (by omega)]
        exact Evt.const _
      · rw [if_neg h3]
        refine Evt.ff h3 ?_
        refine Evt.bind (named_ev s hs i (by omega)) ?_
        exact Evt.const _
theorem j2_none (s : ByteArray) (hs : s.size ≤ 1000000000) (i : Nat) (hi : i < s.size) (h : bt s i ≠ 63) : Evt (fun k => triforiumref14_plain.j2 k s i (bt s i) false) (castP (tailV s i)) := by
  refine Evt.succ (fun k => j2_f k s i (bt s i)) ?_
  refine Evt.bind (Evt.of _ (starts_eq s (by omega) i (by omega) ⟨#[63, 39]⟩ (by decide))) ?_
  have e : (⟨#[63, 39]⟩ : ByteArray).data.toList = [63, 39] := rfl
  rw [e]
  refine Evt.ff (fun hp => h (preAt_first hi hp)) ?_
  exact j3_false s hs i hi
theorem j1_none (s : ByteArray) (hs : s.size ≤ 1000000000) (i : Nat) (hi : i < s.size) (h : bt s i ≠ 63) : Evt (fun k => triforiumref14_plain.j1 k s i (bt s i) false) (castP (tailV s i)) := by
  refine Evt.succ (fun k => j1_f k s i (bt s i)) ?_
  refine Evt.ff (c := bt s i = 63) h ?_
  exact j2_none s hs i hi h

/-- the tail is best where names and variables give nothing -/
theorem tail_good (s : ByteArray) (i : Nat) (hi : i < s.size) (hl : letterB (bt s i) = false) (hv : varsE s i = (0, i)) (h39 : digitB (bt s i) = true ∨ signB (bt s i) = true ∨ pointB (bt s i) = true ∨ True) : Good s i (tailV s i) := by
  have hr := bt_range s i
  unfold Good tailV
  rw [best_eq, names_none hl, hv]
  simp only [Nat.lt_irrefl, if_false]
  by_cases h1 : digitB (bt s i) = true
  · have hd := (digit_iff _).1 h1
    have hg : i < whileE digitB s i := by rw [whileE_hit _ _ _ hi h1]; exact whileE_ge _ _ _
    have hy : symE s i = i := sym_none hi (by omega) (sign_no hr.1 hr.2 (by omega)) (point_no hr.1 hr.2 (by omega))
    rw [if_pos h1, if_pos hg, hy, if_neg (by simp only; omega)]
    exact ⟨rfl, fun _ => rfl⟩
  · have hd := digits_none hi (Bool.eq_false_iff.2 h1)
    rw [if_neg h1, hd]
    simp only [Nat.lt_irrefl, if_false]
    by_cases h2 : signB (bt s i) = true
    · have hsg := (sign_iff _ hr.1 hr.2).1 h2
      have hn := named_none hi (show bt s i ≠ 92 by omega)
      have hg : i < runE s i := by unfold runE; rw [whileE_hit _ _ _ hi h2]; exact whileE_ge _ _ _
      have hy : symE s i = runE s i := by
        unfold symE
        rw [hn, if_neg (by omega)]
        omega
      rw [if_pos h2, hy, if_pos hg]
      exact ⟨rfl, fun _ => rfl⟩
    · rw [if_neg h2]
      have hrn := run_none hi (Bool.eq_false_iff.2 h2)
      by_cases h3 : pointB (bt s i) = true
      · have hpt := (point_iff _ hr.1 hr.2).1 h3
        have hn := named_none hi (show bt s i ≠ 92 by omega)
        have hy : symE s i = i + 1 := by
          unfold symE
          rw [hn, hrn, Nat.max_self, if_pos rfl, if_pos h3]
        rw [if_pos h3, hy, if_pos (by omega)]
        exact ⟨rfl, fun _ => rfl⟩
      · rw [if_neg h3]
        have hge := namedE_ge s i
        have hy : symE s i = namedE s i := by
          unfold symE
          rw [hrn]
          by_cases he : namedE s i = i
          · rw [he, Nat.max_self, if_pos rfl, if_neg h3]
          · rw [if_neg (by omega)]; omega
        rw [hy]
        by_cases he : i < namedE s i
        · rw [if_pos he]
          exact ⟨rfl, fun _ => rfl⟩
        · rw [if_neg he]
          exact ⟨by simp only; omega, fun h => absurd (by simp only; omega) h⟩

theorem bt_letter_39 {c : Int} (h : letterB c = true) : c ≠ 39 := by have := (letter_iff c).1 h; omega
theorem ident_pos {s : ByteArray} {i : Nat} (h : i < identE s i) : i < s.size ∧ letterB (bt s i) = true := by
  unfold identE at h
  split at h
  · rename_i hi
    split at h
    · rename_i hl; exact ⟨hi, hl⟩
    · omega
  · omega

theorem mark_some {s : ByteArray} {i : Nat} {m : List UInt8} (hp : preAt s i m = true) (h : i + m.length < identE s (i + m.length)) : markE s i m = some (identE s (i + m.length)) := by
  unfold markE; rw [if_pos hp, if_pos h]
theorem mark_not {s : ByteArray} {i : Nat} {m : List UInt8} (h : identE s (i + m.length) = i + m.length) : markE s i m = none := by
  unfold markE; split
  · rw [if_neg (by omega)]
  · rfl
theorem mark_pre {s : ByteArray} {i : Nat} {m : List UInt8} (h : preAt s i m = false) : markE s i m = none := by
  unfold markE; rw [if_neg (by rw [h]; decide)]

/-- where a variable stands, it is best -/
theorem vars_good (s : ByteArray) (i : Nat) (hi : i < s.size) (h39 : bt s i = 39 ∨ bt s i = 63) (k : Int) (e : Nat) (hv : varsE s i = (k, e)) (he : i < e) : Good s i (k, e) := by
  have hr := bt_range s i
  have hy : symE s i = i := sym_none hi (by omega) (sign_no hr.1 hr.2 (by omega)) (point_no hr.1 hr.2 (by omega))
  unfold Good
  rw [best_eq, names_none (letter_no (by omega)), hv]
  simp only [Nat.lt_irrefl, if_false, if_pos he]
  rw [digits_none hi (digit_no (by omega)), hy]
  simp only [if_neg (show ¬ e < i by omega), true_and, implies_true]

theorem plain_ev (s : ByteArray) (hs : s.size ≤ 1000000000) (i : Nat) (hi : i < s.size) : ∃ r : Int × Nat, Good s i r ∧ i ≤ r.2 ∧ r.2 ≤ s.size ∧ Evt (fun k => triforiumref14_plain.f k s i) (castP r) := by
  have hr := bt_range s i
  have hb := bestE_le s i hi 4
  suffices h : ∃ r : Int × Nat, Good s i r ∧ Evt (fun k => triforiumref14_plain.f k s i) (castP r) by
    obtain ⟨r, hg, he⟩ := h
    exact ⟨r, hg, by rw [hg.1]; exact hb.1, by rw [hg.1]; exact hb.2, he⟩
  have e1 := Lib.hid (w64 (x := (i : Int) + 1) (by omega) (by omega))
  have e2 := Lib.hid (w64 (x := (i : Int) + 2) (by omega) (by omega))
  have c1 : (i : Int) + 1 = ((i + 1 : Nat) : Int) := by omega
  have c2 : (i : Int) + 2 = ((i + 2 : Nat) : Int) := by omega
  rw [c1] at e1
  rw [c2] at e2
  unfold triforiumref14_plain.f
  rw [c1, e1.out]
  by_cases h1 : letterB (bt s i) = true
  · refine ⟨namesE s i, ?_, ?_⟩
    · have hl := (letter_iff _).1 h1
      have hy : symE s i = i := sym_none hi (by omega) (sign_no hr.1 hr.2 (by omega)) (point_no hr.1 hr.2 (by omega))
      have hg : i < (namesE s i).2 := by
        have a := ident_some hi h1
        unfold namesE
        rw [if_pos a]
        unfold wordE
        have := wordF_le s (s.size - identE s i) 1 (identE s i) (identE_le s i (by omega))
        omega
      unfold Good
      rw [best_eq, vars_none hi (by omega) (by omega), digits_none hi (digit_no (by omega)), hy]
      simp only [if_pos hg, if_neg (show ¬ (namesE s i).2 < i by omega), true_and, implies_true]
    · refine Evt.tt (by omega) (Evt.tt (by omega) ?_)
      refine Evt.bind (Evt.of _ (letter_eq _)) ?_
      refine Evt.tt h1 ?_
      refine Evt.bind (ident_ev s i (by omega) (by omega)) ?_
      have hw : namesE s i = wordE s 1 (identE s i) := by unfold namesE; rw [if_pos (ident_some hi h1)]
      rw [hw]
      exact words_loop s hs _ _ 1 (Nat.le_refl _) (identE_le s i (by omega))
  · have hlf := Bool.eq_false_iff.2 h1
    by_cases h39 : bt s i = 39
    · have hp39 : preAt s i [39] = true := by rw [preAt_one s i hi]; exact decide_eq_true h39
      by_cases ha : i + 1 < identE s (i + 1)
      · refine ⟨(3, identE s (i + 1)), vars_good s i hi (.inl h39) _ _ ?_ (by omega), ?_⟩
        · unfold varsE; rw [mark_some hp39 ha]; rfl
        · refine Evt.tt (by omega) (Evt.tt (by omega) ?_)
          refine Evt.bind (Evt.of _ (letter_eq _)) ?_
          refine Evt.ff h1 (Evt.tt h39 ?_)
          refine Evt.bind (ident_ev s (i + 1) (by omega) (by omega)) ?_
          rw [decide_eq_true (show ((identE s (i + 1) : Nat) : Int) > ((i + 1 : Nat) : Int) by omega)]
          refine Evt.succ (fun k => j1_t k s i (bt s i)) ?_
          rw [c1, e1.out]
          refine Evt.bind (ident_ev s (i + 1) (by omega) (by omega)) ?_
          exact Evt.const _
      · have hge := identE_ge s (i + 1)
        have hn : identE s (i + 1) = i + 1 := by omega
        have hv : varsE s i = (0, i) := by
          unfold varsE
          rw [mark_not (m := [39]) hn, mark_none hi (c := 63) (t := [39]) (show bt s i ≠ 63 by omega), mark_none hi (c := 63) (t := []) (show bt s i ≠ 63 by omega)]
        refine ⟨_, tail_good s i hi hlf hv (.inr (.inr (.inr trivial))), ?_⟩
        refine Evt.tt (by omega) (Evt.tt (by omega) ?_)
        refine Evt.bind (Evt.of _ (letter_eq _)) ?_
        refine Evt.ff h1 (Evt.tt h39 ?_)
        refine Evt.bind (ident_ev s (i + 1) (by omega) (by omega)) ?_
        rw [decide_eq_false (show ¬ ((identE s (i + 1) : Nat) : Int) > ((i + 1 : Nat) : Int) by omega)]
        exact j1_none s hs i hi (by omega)
    · by_cases h63 : bt s i = 63
      · have hm1 : markE s i [39] = none := mark_none hi (c := 39) (t := []) (show bt s i ≠ 39 by omega)
        have hp63 : preAt s i [63] = true := by rw [preAt_one s i hi]; exact decide_eq_true h63
        by_cases ha : i + 1 < identE s (i + 1)
        · obtain ⟨hi1, hl1⟩ := ident_pos ha
          have hno : preAt s i [63, 39] = false := by
            rw [preAt_cons s i hi, preAt_one s (i + 1) hi1, decide_eq_false (show ¬ bt s ((i + 1 : Nat) : Int) = ((39 : UInt8).toNat : Int) from bt_letter_39 hl1), Bool.and_false]
          have hle := identE_le s (i + 1) (by omega)
          have hin := indexE_le s (identE s (i + 1)) hle
          refine ⟨(4, indexE s (identE s (i + 1))), vars_good s i hi (.inr h63) _ _ ?_ (by omega), ?_⟩
          · unfold varsE; rw [hm1, mark_pre hno, mark_some hp63 ha]; rfl
          · refine Evt.tt (by omega) (Evt.tt (by omega) ?_)
            refine Evt.bind (Evt.of _ (letter_eq _)) ?_
            refine Evt.ff h1 (Evt.ff h39 ?_)
            refine Evt.succ (fun k => j1_f k s i (bt s i)) ?_
            refine Evt.tt (c := bt s i = 63) h63 ?_
            rw [c1, e1.out]
            refine Evt.bind (ident_ev s (i + 1) (by omega) (by omega)) ?_
            rw [decide_eq_true (show ((identE s (i + 1) : Nat) : Int) > ((i + 1 : Nat) : Int) by omega)]
            refine Evt.succ (fun k => j2_t k s i (bt s i)) ?_
            rw [c1, e1.out]
            refine Evt.bind (ident_ev s (i + 1) (by omega) (by omega)) ?_
            refine Evt.bind (index_ev s hs _ hle) ?_
            exact Evt.const _
        · have hge := identE_ge s (i + 1)
          have hn : identE s (i + 1) = i + 1 := by omega
          have hm3 : markE s i [63] = none := mark_not (m := [63]) hn
          have hcom : ∀ {r : Int × Int}, Evt (fun k => triforiumref14_plain.j2 k s i (bt s i) false) r → Evt (fun k => if (0 : Int) ≤ (i : Int) then (if (i : Int) < (s.size : Int) then ((triforiumref14_letter.f (bt s i)).bind fun t126 => (if t126 = true then ((triforiumref14_ident.f k s i).bind fun t127 => (triforiumref14_plain.l0 k s t127 1)) else (if (bt s i) = 39 then ((triforiumref14_ident.f k s ((i + 1 : Nat) : Int)).bind fun t130 => (triforiumref14_plain.j1 k s i (bt s i) (decide (t130 > ((i + 1 : Nat) : Int))))) else (triforiumref14_plain.j1 k s i (bt s i) false)))) else (none)) else (none)) r := by
            intro r hj
            refine Evt.tt (by omega) (Evt.tt (by omega) ?_)
            refine Evt.bind (Evt.of _ (letter_eq _)) ?_
            refine Evt.ff h1 (Evt.ff h39 ?_)
            refine Evt.succ (fun k => j1_f k s i (bt s i)) ?_
            refine Evt.tt (c := bt s i = 63) h63 ?_
            rw [c1, e1.out]
            refine Evt.bind (ident_ev s (i + 1) (by omega) (by omega)) ?_
            rw [decide_eq_false (show ¬ ((identE s (i + 1) : Nat) : Int) > ((i + 1 : Nat) : Int) by omega)]
            exact hj
          have e : (⟨#[63, 39]⟩ : ByteArray).data.toList = [63, 39] := rfl
          by_cases hp : preAt s i [63, 39] = true
          · have hle2 := preAt_le hp (by omega)
            simp only [List.length_cons, List.length_nil] at hle2
            by_cases hb2 : i + 2 < identE s (i + 2)
            · have hle := identE_le s (i + 2) (by omega)
              have hin := indexE_le s (identE s (i + 2)) hle
              refine ⟨(5, indexE s (identE s (i + 2))), vars_good s i hi (.inr h63) _ _ ?_ (by omega), hcom ?_⟩
              · unfold varsE; rw [hm1, mark_some hp hb2]; rfl
              · refine Evt.succ (fun k => rfl) ?_
                refine Evt.ff (g := fun _ => some (0, 0)) (c := false = true) (by decide) ?_
                refine Evt.bind (Evt.of _ (starts_eq s (by omega) i (by omega) ⟨#[63, 39]⟩ (by decide))) ?_
                rw [e]
                refine Evt.tt hp ?_
                rw [c2, e2.out]
                refine Evt.bind (ident_ev s (i + 2) (by omega) (by omega)) ?_
                rw [decide_eq_true (show ((identE s (i + 2) : Nat) : Int) > ((i + 2 : Nat) : Int) by omega)]
                refine Evt.succ (fun k => j3_t k s i (bt s i)) ?_
                rw [c2, e2.out]
                refine Evt.bind (ident_ev s (i + 2) (by omega) (by omega)) ?_
                refine Evt.bind (index_ev s hs _ hle) ?_
                exact Evt.const _
            · have hge2 := identE_ge s (i + 2)
              have hn2 : identE s (i + 2) = i + 2 := by omega
              have hv : varsE s i = (0, i) := by
                unfold varsE
                rw [hm1, mark_not (m := [63, 39]) hn2, hm3]
              refine ⟨_, tail_good s i hi hlf hv (.inr (.inr (.inr trivial))), hcom ?_⟩
              refine Evt.succ (fun k => j2_f k s i (bt s i)) ?_
              refine Evt.bind (Evt.of _ (starts_eq s (by omega) i (by omega) ⟨#[63, 39]⟩ (by decide))) ?_
              rw [e]
              refine Evt.tt hp ?_
              rw [c2, e2.out]
              refine Evt.bind (ident_ev s (i + 2) (by omega) (by omega)) ?_
              rw [decide_eq_false (show ¬ ((identE s (i + 2) : Nat) : Int) > ((i + 2 : Nat) : Int) by omega)]
              exact j3_false s hs i hi
          · have hv : varsE s i = (0, i) := by
              unfold varsE
              rw [hm1, mark_pre (m := [63, 39]) (Bool.eq_false_iff.2 hp), hm3]
            refine ⟨_, tail_good s i hi hlf hv (.inr (.inr (.inr trivial))), hcom ?_⟩
            refine Evt.succ (fun k => j2_f k s i (bt s i)) ?_
            refine Evt.bind (Evt.of _ (starts_eq s (by omega) i (by omega) ⟨#[63, 39]⟩ (by decide))) ?_
            rw [e]
            refine Evt.ff hp ?_
            exact j3_false s hs i hi
      · refine ⟨_, tail_good s i hi hlf (vars_none hi h39 h63) (.inr (.inr (.inr trivial))), ?_⟩
        refine Evt.tt (by omega) (Evt.tt (by omega) ?_)
        refine Evt.bind (Evt.of _ (letter_eq _)) ?_
        refine Evt.ff h1 (Evt.ff h39 ?_)
        exact j1_none s hs i hi h63
end Go.Proofs.Ytmkfeanggmjhmaa.L
namespace Go.Proofs.Ytmkfeanggmjhmaa.L
open Go Go.RowKit Go.Proofs.YtmkfeanggmjhmaaW.PrintWords Go.Proofs.YtmkfeanggmjhmaaW.PrintLast Go.Proofs.YtmkfeanggmjhmaaW.PrintMore
open Go.Proofs.Ytmkfeanggmjhmaa.M Go.Proofs.Ytmkfeanggmjhmaa.E Go.Proofs.Ytmkfeanggmjhmaa.PTokenScans

theorem pre_drop {s : ByteArray} {i : Nat} {x : ByteArray} (hp : preAt s i x.data.toList = true) : ∃ r, s.data.toList.drop i = x.data.toList ++ r := by
  unfold preAt at hp
  obtain ⟨r, hr⟩ := List.isPrefixOf_iff_prefix.1 hp
  exact ⟨r, hr.symm⟩
theorem bt_list (s : ByteArray) (i : Nat) : bt s i = (match s.data.toList[i]? with | some b => (b.toNat : Int) | none => 0) := by
  by_cases h : i < s.size
  · have hl : i < s.data.toList.length := h
    rw [bt_nat s i h, List.getElem?_eq_getElem hl]
    rfl
  · have hl : s.data.toList.length ≤ i := Nat.le_of_not_lt h
    rw [List.getElem?_eq_none hl]
    unfold bt
    rw [Int.toNat_natCast, dif_neg h]
theorem bt_pre {s : ByteArray} {i : Nat} {x : ByteArray} (hp : preAt s i x.data.toList = true) (j : Nat) (hj : j < x.size) : bt s ((i + j : Nat) : Int) = bt x j := by
  obtain ⟨r, hr⟩ := pre_drop hp
  have hl : j < x.data.toList.length := hj
  rw [bt_list, bt_list, ← List.getElem?_drop, hr, List.getElem?_append_left hl]
theorem pre_size {s : ByteArray} {i : Nat} {x : ByteArray} (hp : preAt s i x.data.toList = true) (hi : i ≤ s.size) : i + x.size ≤ s.size := preAt_le hp hi

theorem while_shift (p : Int → Bool) {s : ByteArray} {i : Nat} {x : ByteArray} (hp : preAt s i x.data.toList = true) (hi : i ≤ s.size) : ∀ d j : Nat, x.size - j ≤ d → whileE p x j < x.size → whileE p s (i + j) = i + whileE p x j := by
  have hsz := pre_size hp hi
  intro d
  induction d with
  | zero =>
    intro j hd hlt
    have := whileE_ge p x j
    omega
  | succ d ih =>
    intro j hd hlt
    have hge := whileE_ge p x j
    have hjx : j < x.size := by omega
    have hb := bt_pre hp j hjx
    cases hc : p (bt x j) with
    | true =>
      rw [whileE_hit p x j hjx hc] at hlt ⊢
      rw [whileE_hit p s (i + j) (by omega) (by rw [hb]; exact hc)]
      exact ih (j + 1) (by omega) hlt
    | false =>
      rw [whileE_miss p x j hjx hc, whileE_miss p s (i + j) (by omega) (by rw [hb]; exact hc)]
theorem while_all (p : Int → Bool) {s : ByteArray} {i : Nat} {x : ByteArray} (hp : preAt s i x.data.toList = true) (hi : i ≤ s.size) : ∀ d j : Nat, x.size - j ≤ d → whileE p x j = x.size → i + x.size ≤ whileE p s (i + j) := by
  have hsz := pre_size hp hi
  intro d
  induction d with
  | zero =>
    intro j hd he
    have := whileE_ge p s (i + j)
    omega
  | succ d ih =>
    intro j hd he
    by_cases hj : j < x.size
    · have hb := bt_pre hp j hj
      cases hc : p (bt x j) with
      | true =>
        rw [whileE_hit p x j hj hc] at he
        rw [whileE_hit p s (i + j) (by omega) (by rw [hb]; exact hc)]
        exact ih (j + 1) (by omega) he
      | false =>
        rw [whileE_miss p x j hj hc] at he
        omega
    · have := whileE_ge p s (i + j)
      omega
theorem pre_trans {s : ByteArray} {i : Nat} {x : ByteArray} (hp : preAt s i x.data.toList = true) {m : List UInt8} (hm : preAt x 0 m = true) : preAt s i m = true := by
  unfold preAt at hp hm ⊢
  rw [List.drop_zero] at hm
  exact List.isPrefixOf_iff_prefix.2 ((List.isPrefixOf_iff_prefix.1 hm).trans (List.isPrefixOf_iff_prefix.1 hp))

theorem named_shift {s : ByteArray} {i : Nat} {x : ByteArray} (hp : preAt s i x.data.toList = true) (hi : i ≤ s.size) (h0 : 0 < x.size) (hn : namedE x 0 = x.size) : namedE s i = i + x.size ∧ bt s i = 92 := by
  have hsz := pre_size hp hi
  unfold namedE at hn
  split at hn
  · rename_i hm
    have hm2 := preAt_le hm (by omega)
    simp only [List.length_cons, List.length_nil] at hm2
    have h92 : bt s i = 92 := by
      have := preAt_first (c := 92) (t := [60]) (by omega) hm
      have hb := bt_pre hp 0 h0
      rw [Nat.add_zero] at hb
      rw [hb]; exact this
    refine ⟨?_, h92⟩
    split at hn
    · omega
    · rename_i hno
      have n1 : identE x (0 + 2) ≠ 0 + 2 := fun e => hno (.inl e)
      have n2 : identE x (0 + 2) ≠ x.size := fun e => hno (.inr (.inl e))
      have n3 : bt x (identE x (0 + 2)) = 62 := Decidable.byContradiction (fun e => hno (.inr (.inr e)))
      have hle := identE_le x (0 + 2) (by omega)
      have hge := identE_ge x (0 + 2)
      have hlt2 : 0 + 2 < identE x (0 + 2) := by omega
      obtain ⟨a1, a2⟩ := ident_pos hlt2
      have hid : identE x (0 + 2) = whileE identB x (0 + 2) := by unfold identE; rw [if_pos a1, if_pos a2]
      have hbs := bt_pre hp (0 + 2) a1
      have e0 : i + (0 + 2) = i + 2 := by omega
      rw [e0] at hbs
      have hids : identE s (i + 2) = whileE identB s (i + 2) := by unfold identE; rw [if_pos (by omega), if_pos (by rw [hbs]; exact a2)]
      have hsh := while_shift identB hp hi _ (0 + 2) (Nat.le_refl _) (by rw [← hid]; omega)
      rw [e0, ← hids, ← hid] at hsh
      have hb2 := bt_pre hp (identE x (0 + 2)) (by omega)
      unfold namedE
      rw [if_pos (pre_trans hp hm), hsh, if_neg]
      · omega
      · rintro (h | h | h)
        · omega
        · omega
        · rw [hb2] at h
          exact h n3
  · omega

/-- a keyword at a place, no shorter than the best reading, that begins with no letter, is the best reading, and that is a symbol -/
theorem kw_sym {s : ByteArray} {i : Nat} (hi : i < s.size) {x : ByteArray} (hk : kwB x = true) (hp : preAt s i x.data.toList = true) (hl : letterB (bt x ((0 : Nat) : Int)) = false) {r : Int × Nat} (hg : Good s i r) (hle : r.2 ≤ i + x.size) : r = (7, i + x.size) := by
  have hsz := pre_size hp (by omega)
  unfold kwB at hk
  simp only [Bool.and_eq_true, Bool.not_eq_true', Bool.or_eq_false_iff, decide_eq_false_iff_not, Bool.or_eq_true, decide_eq_true_eq] at hk
  obtain ⟨⟨⟨⟨h0, h40⟩, hop⟩, hcl⟩, hk⟩ := hk
  have h0' : 0 < x.size := by omega
  have hb := bt_pre hp 0 h0'
  rw [Nat.add_zero] at hb
  have hls : letterB (bt s i) = false := by rw [hb]; exact hl
  have hr := bt_range s i
  have key : bestE s i 4 = (7, i + x.size) ∨ (bestE s i 4).1 = 7 ∧ i + x.size ≤ (bestE s i 4).2 := by
    rcases hk with ((hk | hk) | hk) | ⟨hk, hk2⟩
    · have hi0 : identE x 0 = 0 := ident_none hl
      omega
    · -- a run of signs
      have hsg : signB (bt s i) = true := by
        rw [hb]
        cases hc : signB (bt x 0) with
        | true => rfl
        | false =>
          have := run_none h0' hc
          unfold runE at hk this
          rw [this] at hk
          omega
      have hal := while_all signB hp (by omega) _ 0 (Nat.le_refl _) hk
      rw [Nat.add_zero] at hal
      have hsi := (sign_iff _ hr.1 hr.2).1 hsg
      have hy : symE s i = runE s i := by
        unfold symE
        rw [named_none hi (by omega), if_neg (by unfold runE; omega)]
        unfold runE
        omega
      right
      rw [best_eq, names_none hls, vars_none hi (by omega) (by omega), digits_none hi (digit_no (by omega)), hy]
      simp only [Nat.lt_irrefl, if_false]
      rw [if_pos (by unfold runE; omega)]
      exact ⟨rfl, hal⟩
    · -- a named symbol
      obtain ⟨hn, h92⟩ := named_shift hp (by omega) h0' hk
      have hy : symE s i = i + x.size := by
        unfold symE
        rw [hn, run_none hi (sign_no hr.1 hr.2 (by omega)), if_neg (by omega)]
        omega
      left
      rw [best_eq, names_none hls, vars_none hi (by omega) (by omega), digits_none hi (digit_no (by omega)), hy]
      simp only [Nat.lt_irrefl, if_false]
      rw [if_pos (by omega)]
    · -- a point
      have hpt : pointB (bt s i) = true := by rw [hb]; exact hk2
      have hpi := (point_iff _ hr.1 hr.2).1 hpt
      have hy : symE s i = i + x.size := by
        unfold symE
        rw [named_none hi (by omega), run_none hi (sign_no hr.1 hr.2 (by omega)), Nat.max_self, if_pos rfl, if_pos hpt, hk]
      left
      rw [best_eq, names_none hls, vars_none hi (by omega) (by omega), digits_none hi (digit_no (by omega)), hy]
      simp only [Nat.lt_irrefl, if_false]
      rw [if_pos (by omega)]
  obtain ⟨g1, g2⟩ := hg
  obtain ⟨rk, re⟩ := r
  simp only at g1 g2 hle
  rcases key with key | ⟨k1, k2⟩
  · rw [key] at g1 g2
    simp only at g1 g2
    subst g1
    rw [g2 (by omega)]
  · have : re = i + x.size := by omega
    subst this
    rw [g2 (by omega), k1]

/-- where a letter stands, the best reading is a name -/
theorem good_letter {s : ByteArray} {i : Nat} (hi : i < s.size) (hl : letterB (bt s i) = true) {r : Int × Nat} (hg : Good s i r) : i < r.2 ∧ (r.1 = 1 ∨ r.1 = 2) := by
  have hr := bt_range s i
  have hli := (letter_iff _).1 hl
  have a := ident_some hi hl
  have hy : symE s i = i := sym_none hi (by omega) (sign_no hr.1 hr.2 (by omega)) (point_no hr.1 hr.2 (by omega))
  have hw : namesE s i = wordE s 1 (identE s i) := by unfold namesE; rw [if_pos a]
  have hle := identE_le s i (by omega)
  have h2 : i < (namesE s i).2 := by
    rw [hw]
    have := wordF_le s (s.size - identE s i) 1 (identE s i) hle
    unfold wordE
    omega
  have hkind : ∀ d k e, (k = 1 ∨ k = 2) → (wordF s d k e).1 = 1 ∨ (wordF s d k e).1 = 2 := by
    intro d
    induction d with
    | zero => intro k e h; exact h
    | succ d ih =>
      intro k e h
      unfold wordF
      split
      · split
        · split
          · exact h
          · exact ih 2 _ (.inr rfl)
        · exact h
      · exact h
  have h1 : (namesE s i).1 = 1 ∨ (namesE s i).1 = 2 := by rw [hw]; exact hkind _ 1 _ (.inl rfl)
  have hbest : bestE s i 4 = namesE s i := by
    rw [best_eq, vars_none hi (by omega) (by omega), digits_none hi (digit_no (by omega)), hy]
    simp only [if_pos h2, if_neg (show ¬ (namesE s i).2 < i by omega)]
  obtain ⟨g1, g2⟩ := hg
  rw [hbest] at g1 g2
  have h3 : i < r.2 := by omega
  exact ⟨h3, by rw [g2 (by omega)]; exact h1⟩
end Go.Proofs.Ytmkfeanggmjhmaa.L
