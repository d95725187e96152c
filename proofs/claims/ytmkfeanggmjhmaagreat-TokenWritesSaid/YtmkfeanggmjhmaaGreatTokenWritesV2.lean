/- Texts of this claim, one behind the other: L7, K, Rp1, Bld, S1, S3, S4. -/
import Derived.Test.YtmkfeanggmjhmaaGreatTokenWritesV1
import Derived.RangeFuncNested
import Derived.RangeFuncBound
import Derived.RangeFuncCalls
import Derived.RangeFuncLeaves
import Derived.Shelf.Abstract
import Derived.WalkKit
import Derived.OwnWalkIn
import Derived.TacticsInMore
import Derived.LoopNIn
import Derived.LoopIn
import Derived.Lib.Hide
import Derived.Deep.Draws
import Derived.Test.YtmkfeanggmjhmaaGreatProg
import Derived.Defers
import Derived.Laws.Pointers
import Derived.Laws.LoneSync
import Derived.RegionTactic
import Derived.RegionCalls
import Derived.Laws.NewBlocks
import Derived.Lib.Strings
import Derived.Lib.Slices
import Derived.Lib.Walk
import Derived.Lib.Builder
import Derived.Lib.AppendStr
import Derived.Lib.UnsafeStr
import Derived.Lib.MakeNoZero
import Derived.Laws.Externs
import Derived.Laws.IdiomCopy
import Derived.Laws.BitsLemmas
import Derived.KernelRfl
import Derived.Test.YtmkfeanggmjhmaaGreatShelf
import Derived.Lib.IndexBytes
import Derived.BigQuiet
import Derived.Deep.QuietTactic
/- The printed reference of tokens is the plain scanner: one token, all tokens. -/
namespace Go.Proofs.YtmkfeanggmjhmaaGreat.L
set_option linter.unusedSimpArgs false
set_option linter.unusedVariables false
open Go Go.RowKit Go.Proofs.YtmkfeanggmjhmaaGreatW.PrintWords Go.Proofs.YtmkfeanggmjhmaaGreatW.PrintLast Go.Proofs.YtmkfeanggmjhmaaGreatW.PrintMore
open Go.Proofs.YtmkfeanggmjhmaaGreat.M Go.Proofs.YtmkfeanggmjhmaaGreat.E Go.Proofs.YtmkfeanggmjhmaaGreat.PTokenWrites

/-- the keywords as a set -/
def kwL (l : List ByteArray) (t : List UInt8) : Bool := l.any (fun x => t == x.data.toList)
theorem ext_pre {s : ByteArray} {i e : Nat} (hie : i ≤ e) (he : e ≤ s.size) {x : ByteArray} (h : (s.extract i e).data.toList = x.data.toList) : preAt s i x.data.toList = true ∧ i + x.size = e := by
  have e1 : (s.extract i e).data.toList = (s.data.toList.drop i).take (e - i) := by
    rw [ByteArray.data_extract, Array.toList_extract, List.extract_eq_take_drop]
  rw [e1] at h
  have hl : x.size = e - i := by
    have := congrArg List.length h
    rw [List.length_take, List.length_drop] at this
    have a : s.data.toList.length = s.size := rfl
    have b : x.data.toList.length = x.size := rfl
    omega
  refine ⟨?_, by omega⟩
  unfold preAt
  rw [← h]
  exact List.isPrefixOf_iff_prefix.2 (List.take_prefix _ _)
theorem pre_ext {s : ByteArray} {i e : Nat} (he : e ≤ s.size) {x : ByteArray} (hp : preAt s i x.data.toList = true) (h : i + x.size = e) : (s.extract i e).data.toList = x.data.toList := by
  have e1 : (s.extract i e).data.toList = (s.data.toList.drop i).take (e - i) := by
    rw [ByteArray.data_extract, Array.toList_extract, List.extract_eq_take_drop]
  rw [e1]
  obtain ⟨r, hr⟩ := pre_drop hp
  rw [hr]
  have b : x.data.toList.length = x.size := rfl
  rw [List.take_append_of_le_length (by omega), List.take_of_length_le (by omega)]

def oneP (i : Nat) : Except Int ((Int × ByteArray) × Nat) → Int × ByteArray × Int × Int × Int
  | .ok ((k, t), e) => (k, t, i, e, 0)
  | .error c => (0, ⟨#[]⟩, 0, i, c)

def kw10 (l : List ByteArray) (s : ByteArray) (i : Nat) (r : Int × Nat) : Int := if (r.1 = 1 ∨ r.1 = 7) ∧ kwL l (s.extract i r.2).data.toList = true then 10 else r.1
def endP (s : ByteArray) (i : Nat) (k : Int) (e : Nat) : Int × ByteArray × Int × Int × Int :=
  if e = i then (0, ⟨#[]⟩, 0, i, 160) else if (s.extract i e).data.toList = closed then (0, ⟨#[]⟩, 0, i, 160) else (k, s.extract i e, i, e, 0)

theorem kw_step (s : ByteArray) (i : Nat) (hi : i < s.size) (r : Int × Nat) (hg : Good s i r) (hie : i ≤ r.2) (hes : r.2 ≤ s.size) (a : List ByteArray) (x : ByteArray) :
    kw10 (a ++ [x]) s i r = if (r.1 = 1 ∨ r.1 = 7) ∧ (s.extract i r.2).data.toList = x.data.toList then 10 else kw10 a s i r := by
  unfold kw10 kwL
  rw [List.any_append]
  simp only [List.any_cons, List.any_nil, Bool.or_false, Bool.or_eq_true, beq_iff_eq]
  by_cases h1 : r.1 = 1 ∨ r.1 = 7
  · by_cases h2 : (s.extract i r.2).data.toList = x.data.toList
    · simp only [h1, h2, or_true, and_self, if_true]
    · simp only [h1, h2, or_false, true_and, if_false]
  · simp only [h1, false_and, if_false]

theorem one_loop (l : List ByteArray) (hll : l.length ≤ 1000000) (hk : ∀ x ∈ l, kwB x = true) (hx : ∀ x ∈ l, x.size ≤ 1000000000) (s : ByteArray) (hs : s.size ≤ 1000000000) (i : Nat) (hi : i < s.size) (r : Int × Nat) (hg : Good s i r) (hie : i ≤ r.2) (hes : r.2 ≤ s.size) :
    ∀ d j : Nat, l.length - j ≤ d → j ≤ l.length → Evt (fun k => triforiumref14_one.l0 k l s i (kw10 (l.take j) s i r) (r.2 : Int) j) (endP s i (kw10 l s i r) r.2) := by
  have hend : ∀ j : Nat, l.length ≤ j → j ≤ l.length → Evt (fun k => triforiumref14_one.l0 k l s i (kw10 (l.take j) s i r) (r.2 : Int) j) (endP s i (kw10 l s i r) r.2) := by
    intro j h1 h2
    obtain rfl : j = l.length := by omega
    rw [List.take_length]
    refine Evt.succ (fun k => rfl) ?_
    refine Evt.ff (by omega) ?_
    unfold endP
    by_cases he : r.2 = i
    · rw [if_pos he]
      exact Evt.tt (by omega) (Evt.const _)
    · rw [if_neg he]
      refine Evt.ff (by omega) (Evt.tt (by omega) (Evt.tt (by omega) (Evt.tt (by omega) ?_)))
      rw [Int.toNat_natCast, Int.toNat_natCast, Lib.toList_data]
      by_cases hc : (s.extract i r.2).data.toList = closed
      · rw [if_pos hc]
        exact Evt.tt hc (Evt.const _)
      · rw [if_neg hc]
        exact Evt.ff hc (Evt.const _)
  intro d
  induction d with
  | zero => intro j hd hj; exact hend j (by omega) hj
  | succ d ih =>
    intro j hd hj
    by_cases hlt : j < l.length
    · have hmem := List.getElem_mem hlt
      have hkx := hk _ hmem
      have hxs := hx _ hmem
      have hst := kw_step s i hi r hg hie hes (l.take j) (l[j]'hlt)
      rw [← List.take_succ_eq_append_getElem hlt] at hst
      have hnx := ih (j + 1) (by omega) (by omega)
      have hrd := rd_eq l j hlt
      generalize l[j]'hlt = x at hkx hxs hst hrd
      have h0 : 0 < x.size := by
        unfold kwB at hkx
        simp only [Bool.and_eq_true, Bool.not_eq_true', Bool.or_eq_false_iff, decide_eq_false_iff_not] at hkx
        have := hkx.1.1.1.1
        omega
      have ej : wrap64 ((j : Int) + 1) = ((j + 1 : Nat) : Int) := w64 (by omega) (by omega)
      have ez : wrap64 ((i : Int) + (x.size : Int)) = ((i + x.size : Nat) : Int) := w64 (by omega) (by omega)
      -- the keyword changes nothing
      have hsame : ¬ ((r.1 = 1 ∨ r.1 = 7) ∧ (s.extract i r.2).data.toList = x.data.toList) → Evt (fun k => triforiumref14_one.l0 k l s i (kw10 (l.take j) s i r) (r.2 : Int) (wrap64 ((j : Int) + 1))) (endP s i (kw10 l s i r) r.2) := by
        intro hn
        rw [if_neg hn] at hst
        rw [ej, ← hst]
        exact hnx
      -- the keyword is the token
      have hten : ((r.1 = 1 ∨ r.1 = 7) ∧ (s.extract i r.2).data.toList = x.data.toList) → i + x.size = r.2 → Evt (fun k => triforiumref14_one.l0 k l s i 10 (wrap64 ((i : Int) + (x.size : Int))) (wrap64 ((j : Int) + 1))) (endP s i (kw10 l s i r) r.2) := by
        intro hn hez
        rw [if_pos hn] at hst
        rw [hst] at hnx
        rw [ej, ez, hez]
        exact hnx
      clear hnx ih hend
      refine Evt.succ (fun k => rfl) ?_
      refine Evt.tt (by clear ej ez hst hten hsame; omega) (Evt.tt (by clear ej ez hst hten hsame; omega) ?_)
      rw [hrd]
      refine Evt.bind (Evt.of _ (starts_eq s (by clear ej ez hst hten hsame; omega) i (by clear ej ez hst hten hsame; omega) x (by clear ej ez hst hten hsame; omega))) ?_
      by_cases hp : preAt s i x.data.toList = true
      · refine Evt.tt hp ?_
        by_cases hge : r.2 ≤ i + x.size
        · refine Evt.tt (by rw [ez]; clear ej ez hst hten hsame; omega) (Evt.tt (by clear ej ez hst hten hsame; omega) ?_)
          refine Evt.bind (Evt.of _ (letter_eq _)) ?_
          have hb := bt_pre hp 0 h0
          rw [Nat.add_zero] at hb
          by_cases hl : letterB (bt x ((0 : Nat) : Int)) = true
          · refine Evt.tt hl ?_
            have hgl := good_letter hi (by rw [hb]; exact hl) hg
            by_cases hone : kw10 (l.take j) s i r = 1
            · refine Evt.tt hone ?_
              have hr1 : r.1 = 1 := by
                unfold kw10 at hone
                split at hone
                · exact absurd hone (by decide)
                · exact hone
              by_cases hez : i + x.size = r.2
              · refine Evt.tt (by rw [ez, hez]) ?_
                exact hten ⟨.inl hr1, pre_ext hes hp hez⟩ hez
              · refine Evt.ff (by rw [ez]; intro e; exact hez (by clear ej ez hst hten hsame; omega)) ?_
                exact hsame (fun h => hez (ext_pre hie hes h.2).2)
            · refine Evt.ff hone ?_
              by_cases hT : (r.1 = 1 ∨ r.1 = 7) ∧ (s.extract i r.2).data.toList = x.data.toList
              · -- it is a keyword already
                have hr1 : r.1 = 1 := by
                  rcases hgl.2 with h | h
                  · exact h
                  · rcases hT.1 with h' | h'
                    · exact h'
                    · rw [h] at h'; exact absurd h' (by decide)
                have hk10 : kw10 (l.take j) s i r = 10 := by
                  unfold kw10 at hone ⊢
                  split
                  · rfl
                  · rename_i hn
                    rw [if_neg hn] at hone
                    exact absurd hr1 hone
                have hez := (ext_pre hie hes hT.2).2
                have := hten hT hez
                rw [ez, hez] at this
                rw [hk10]
                exact this
              · exact hsame hT
          · refine Evt.ff hl ?_
            have hks := kw_sym hi hkx hp (Bool.eq_false_iff.2 hl) hg hge
            have hez : i + x.size = r.2 := by rw [hks]
            exact hten ⟨.inr (by rw [hks]), pre_ext hes hp hez⟩ hez
        · refine Evt.ff (by rw [ez]; clear ej ez hst hten hsame; omega) ?_
          exact hsame (fun h => hge (by have := (ext_pre hie hes h.2).2; clear ej ez hst hten hsame; omega))
      · refine Evt.ff hp ?_
        exact hsame (fun h => hp (ext_pre hie hes h.2).1)
    · exact hend j (by omega) hj

theorem one_ev (l : List ByteArray) (hll : l.length ≤ 1000000) (hk : ∀ x ∈ l, kwB x = true) (hx : ∀ x ∈ l, x.size ≤ 1000000000) (s : ByteArray) (hs : s.size ≤ 1000000000) (i : Nat) (hi : i < s.size) :
    Evt (fun k => triforiumref14_one.f k l s i) (oneP i (oneE (kwL l) s i)) := by
  unfold triforiumref14_one.f
  refine Evt.tt (by omega) (Evt.tt (by omega) ?_)
  by_cases h34 : bt s i = 34
  · refine Evt.tt h34 ?_
    rw [oneE_text h34]
    refine (Evt.bind (text_ev s hs i hi) (Evt.const _)).eq ?_
    cases textE s (i + 1) [] <;> rfl
  · refine Evt.ff h34 ?_
    have eo : (⟨#[92, 60, 111, 112, 101, 110, 62]⟩ : ByteArray).data.toList = opened := rfl
    refine Evt.bind (Evt.of _ (starts_eq s (by omega) i (by omega) ⟨#[92, 60, 111, 112, 101, 110, 62]⟩ (by decide))) ?_
    rw [eo]
    by_cases hp : preAt s i opened = true
    · refine Evt.tt hp ?_
      rw [oneE_quote h34 hp]
      refine (Evt.bind (quoted_ev s hs i hi hp) (Evt.const _)).eq ?_
      cases nestE s opened closed i 0 <;> rfl
    · refine Evt.ff hp ?_
      obtain ⟨r, hg, hie, hes, hev⟩ := plain_ev s hs i hi
      refine Evt.bind hev ?_
      have hpf := Bool.eq_false_iff.2 hp
      have e0 : kw10 ([] : List ByteArray) s i r = r.1 := by unfold kw10 kwL; simp
      obtain ⟨g1, g2⟩ := hg
      by_cases he : r.2 = i
      · -- nothing begins here
        rw [oneE_none h34 hpf (k := (bestE s i 4).1) (e := (bestE s i 4).2) rfl (.inl (by rw [← g1]; exact he))]
        have h := one_loop l hll hk hx s hs i hi r ⟨g1, g2⟩ hie hes _ 0 (Nat.le_refl _) (by omega)
        rw [List.take_zero, e0] at h
        refine h.eq ?_
        unfold endP
        rw [if_pos he]
        rfl
      · have hk1 := g2 he
        have h := one_loop l hll hk hx s hs i hi r ⟨g1, g2⟩ hie hes _ 0 (Nat.le_refl _) (by omega)
        rw [List.take_zero, e0] at h
        refine h.eq ?_
        unfold endP
        rw [if_neg he]
        by_cases hc : (s.extract i r.2).data.toList = closed
        · rw [if_pos hc, oneE_none h34 hpf (k := (bestE s i 4).1) (e := (bestE s i 4).2) rfl (.inr (by rw [← g1]; exact hc))]
          rfl
        · rw [if_neg hc, oneE_some h34 hpf (k := (bestE s i 4).1) (e := (bestE s i 4).2) rfl (by rw [← g1]; exact he) (by rw [← g1]; exact hc)]
          unfold oneP kw10
          rw [← g1, hk1]

def s49 (x : Tok) : S37 := ⟨x.kind, x.text, x.at_⟩
def s36 (x : Tok) : S30 := ⟨x.kind, x.text, x.at_⟩
def scP : List Tok × Option (Nat × Int) → List S37 × Int × Int
  | (xs, none) => (xs.map s49, 0, 0)
  | (_, some (q, c)) => ([], q, c)
theorem oneE_code {kw : List UInt8 → Bool} {s : ByteArray} {i : Nat} {c : Int} (h : oneE kw s i = .error c) : c ≠ 0 := by
  unfold oneE at h
  split at h
  · split at h
    · cases h
    · cases h; decide
  · split at h
    · split at h
      · cases h
      · cases h; decide
    · split at h
      · cases h; decide
      · cases h
theorem Scan_loop (l : List ByteArray) (hll : l.length ≤ 1000000) (hk : ∀ x ∈ l, kwB x = true) (hx : ∀ x ∈ l, x.size ≤ 1000000000) (s : ByteArray) (hs : s.size ≤ 1000000000) :
    ∀ d (i j : Nat) (pre : List Tok), s.size - i ≤ d → i ≤ s.size → pre.length ≤ i →
      (blanksE s i = .ok j → Evt (fun k => triforiumref14_Scan.l0 k l s (pre.map s49) i) (scP (scanFrom (kwL l) s j pre))) ∧
      (∀ q, blanksE s i = .error q → Evt (fun k => triforiumref14_Scan.l0 k l s (pre.map s49) i) ([], (q : Int), 162)) := by
  intro d
  induction d using Nat.strongRecOn with
  | _ d ih =>
    intro i j pre hd hi hpre
    have hbl := blanks_ev s hs i hi
    constructor
    · intro hb
      have hj := blanksE_le hi hb
      rw [hb] at hbl
      refine Evt.succ (fun k => rfl) ?_
      refine Evt.bind hbl ?_
      refine Evt.tt rfl ?_
      by_cases hjs : j < s.size
      · refine Evt.ff (show ¬ (j : Int) = (s.size : Int) by omega) ?_
        refine Evt.bind (one_ev l hll hk hx s hs j hjs) ?_
        rw [scanFrom_eq _ s j pre hjs]
        cases ho : oneE (kwL l) s j with
        | error c =>
          exact Evt.ff (oneE_code ho) (Evt.const _)
        | ok r =>
          obtain ⟨⟨k0, t0⟩, e⟩ := r
          have hl := oneE_lt hjs ho
          simp only at hl
          refine Evt.tt rfl (Evt.tt (by rw [List.length_map]; omega) ?_)
          have hm : (pre.map s49) ++ [(⟨k0, t0, (j : Int)⟩ : S37)] = (pre ++ [(⟨k0, t0, j⟩ : Tok)]).map s49 := by rw [List.map_append]; rfl
          have hn := ih (s.size - e) (by omega) e
          cases hb2 : blanksE s e with
          | ok j2 =>
            have := (hn j2 (pre ++ [⟨k0, t0, j⟩]) (Nat.le_refl _) hl.2 (by simp; omega)).1 hb2
            rw [← hm] at this
            simp only [oneP, hb2]
            exact this
          | error q =>
            have := (hn 0 (pre ++ [⟨k0, t0, j⟩]) (Nat.le_refl _) hl.2 (by simp; omega)).2 q hb2
            rw [← hm] at this
            simp only [oneP, hb2]
            exact this
      · rw [scanFrom_end _ s j pre (by omega)]
        exact Evt.tt (show (j : Int) = (s.size : Int) by omega) (Evt.const _)
    · intro q hb
      rw [hb] at hbl
      refine Evt.succ (fun k => rfl) ?_
      refine Evt.bind hbl ?_
      exact Evt.ff (show ¬ (162 : Int) = 0 by decide) (Evt.const _)

/-- the keywords that are right are keywords -/
theorem check_kw : ∀ (l met : List ByteArray), checkL met l = 0 → ∀ x ∈ l, kwB x = true := by
  intro l
  induction l with
  | nil => intro met _ x hx; cases hx
  | cons a r ih =>
    intro met h x hx
    unfold checkL at h
    by_cases ha : kwB a = true
    · rw [if_pos ha] at h
      split at h
      · exact absurd h (by decide)
      · rcases List.mem_cons.1 hx with rfl | hx
        · exact ha
        · exact ih _ h x hx
    · rw [if_neg ha] at h
      exact absurd h (by decide)
theorem checkE_kw {l : List ByteArray} (h : checkE l = 0) : l.length ≤ 500 ∧ ∀ x ∈ l, kwB x = true := by
  unfold checkE at h
  split at h
  · exact absurd h (by decide)
  · exact ⟨by omega, check_kw l [] h⟩

def scanRef (l : List ByteArray) (s : ByteArray) : List Tok × Nat × Int :=
  if checkE l ≠ 0 then ([], 0, checkE l) else if 40000 < s.size then ([], 0, 7) else
    match scanE (kwL l) s with
    | (xs, none) => (xs, 0, 0)
    | (_, some (q, c)) => ([], q, c)
theorem Scan_ev (l : List ByteArray) (hx : ∀ x ∈ l, x.size ≤ 1000000000) (s : ByteArray) :
    Evt (fun k => triforiumref14_Scan.f k l s) ((scanRef l s).1.map s49, ((scanRef l s).2.1 : Int), (scanRef l s).2.2) := by
  unfold triforiumref14_Scan.f scanRef
  refine Evt.bind (Check_ev l hx) ?_
  by_cases h0 : checkE l = 0
  · rw [if_neg (fun h => h h0)]
    refine Evt.tt h0 ?_
    obtain ⟨hl, hk⟩ := checkE_kw h0
    by_cases hbig : 40000 < s.size
    · rw [if_pos hbig]
      exact Evt.tt (by omega) (Evt.const _)
    · rw [if_neg hbig]
      refine Evt.ff (by omega) ?_
      have h := Scan_loop l (by omega) hk hx s (by omega) (s.size - 0) 0
      unfold scanE
      cases hb : blanksE s 0 with
      | error q =>
        exact (h 0 [] (Nat.le_refl _) (by omega) (by simp)).2 q hb
      | ok j =>
        refine ((h j [] (Nat.le_refl _) (by omega) (by simp)).1 hb).eq ?_
        simp only
        generalize scanFrom (kwL l) s j [] = R
        obtain ⟨xs, _ | ⟨q, c⟩⟩ := R <;> rfl
  · rw [if_pos h0]
    exact Evt.ff h0 (Evt.const _)
end Go.Proofs.YtmkfeanggmjhmaaGreat.L
namespace Go.Proofs.YtmkfeanggmjhmaaGreat.L
set_option linter.unusedSimpArgs false
set_option linter.unusedVariables false
open Go Go.RowKit Go.Proofs.YtmkfeanggmjhmaaGreatW.PrintWords Go.Proofs.YtmkfeanggmjhmaaGreatW.PrintLast Go.Proofs.YtmkfeanggmjhmaaGreatW.PrintMore
open Go.Proofs.YtmkfeanggmjhmaaGreat.M Go.Proofs.YtmkfeanggmjhmaaGreat.E Go.Proofs.YtmkfeanggmjhmaaGreat.PTokenWrites

theorem rd49 (xs : List Tok) (j : Nat) (h : j < xs.length) : rd_T37 (xs.map s49) (j : Int) = s49 (xs[j]'h) := by
  unfold rd_T37; simp [h]
theorem Tokens_ev (xs : List Tok) (hl : xs.length ≤ 1000000000) : Evt (fun k => triforiumlaw14_Tokens.f k (xs.map s49)) (xs.map s36) := by
  have key : ∀ d j : Nat, xs.length - j ≤ d → j ≤ xs.length → Evt (fun k => triforiumlaw14_Tokens.l0 k ((xs.take j).map s36) (xs.map s49) (((xs.map s49).length : Nat) : Int) (j : Int)) (xs.map s36) := by
    intro d
    induction d with
    | zero =>
      intro j hd hj
      obtain rfl : j = xs.length := by omega
      refine Evt.succ (fun k => rfl) ?_
      refine (Evt.ff (by rw [List.length_map]; omega) (Evt.const _)).eq ?_
      rw [List.take_length]
    | succ d ih =>
      intro j hd hj
      by_cases hlt : j < xs.length
      · refine Evt.succ (fun k => rfl) ?_
        refine Evt.tt (by rw [List.length_map]; omega) (Evt.tt (by omega) (Evt.tt (by rw [List.length_map]; omega) (Evt.tt (by simp; omega) ?_)))
        rw [rd49 xs j hlt, w64 (x := (j : Int) + 1) (by omega) (by omega)]
        have := ih (j + 1) (by omega) (by omega)
        rw [List.take_succ_eq_append_getElem hlt, List.map_append] at this
        exact this
      · obtain rfl : j = xs.length := by omega
        refine Evt.succ (fun k => rfl) ?_
        refine (Evt.ff (by rw [List.length_map]; omega) (Evt.const _)).eq ?_
        rw [List.take_length]
  exact key _ 0 (Nat.le_refl _) (by omega)

end Go.Proofs.YtmkfeanggmjhmaaGreat.L

/- General words for walks over this program's code: what a stretch of a run may turn ('Chg'); a range over a function whose iterator may keep state, and may panic.  It names no program. -/
namespace Go.Proofs.YtmkfeanggmjhmaaGreat.K
set_option linter.unusedSimpArgs false
set_option linter.unusedVariables false
open Go Go.RowKit

/-- From A to B no block that lay has turned but those of T. -/
structure Chg (T : Nat → Prop) (A B : World) : Prop where
  os : B.os = A.os
  tape : B.tape = A.tape
  output : B.output = A.output
  size : A.heap.size ≤ B.heap.size
  block : ∀ k, k < A.heap.size → ¬ T k → B.heap[k]? = A.heap[k]?

theorem Chg.refl (T : Nat → Prop) (A : World) : Chg T A A := ⟨rfl, rfl, rfl, Nat.le_refl _, fun _ _ _ => rfl⟩
theorem Chg.trans {T : Nat → Prop} {A B C : World} (h : Chg T A B) (k : Chg T B C) : Chg T A C :=
  ⟨k.os.trans h.os, k.tape.trans h.tape, k.output.trans h.output, Nat.le_trans h.size k.size, fun i hi ht => (k.block i (Nat.lt_of_lt_of_le hi h.size) ht).trans (h.block i hi ht)⟩
/-- What is turned by the second stretch may be new since the first. -/
theorem Chg.trans' {T T' : Nat → Prop} {A B C : World} (h : Chg T A B) (k : Chg T' B C) (ht : ∀ i, T' i → T i ∨ A.heap.size ≤ i) : Chg T A C :=
  ⟨k.os.trans h.os, k.tape.trans h.tape, k.output.trans h.output, Nat.le_trans h.size k.size, fun i hi hn => (k.block i (Nat.lt_of_lt_of_le hi h.size) (fun e => by
    rcases ht i e with h1 | h1
    · exact hn h1
    · omega)).trans (h.block i hi hn)⟩
theorem Chg.mono {T T' : Nat → Prop} {A B : World} (h : Chg T A B) (ht : ∀ k, T k → T' k) : Chg T' A B :=
  ⟨h.os, h.tape, h.output, h.size, fun k hk hn => h.block k hk (fun e => hn (ht k e))⟩
theorem Chg.alloc (T : Nat → Prop) (A : World) (o : Obj) : Chg T A (A.alloc o) := ⟨rfl, rfl, rfl, by simp, fun k hk _ => Below.heap_alloc A o k hk⟩
theorem Chg.drew (T : Nat → Prop) (A : World) : Chg T A A.drew := ⟨rfl, rfl, rfl, Nat.le_refl _, fun _ _ _ => rfl⟩
theorem Chg.drewN (T : Nat → Prop) (A : World) (n : Nat) : Chg T A (A.drewN n) := ⟨rfl, rfl, rfl, Nat.le_refl _, fun _ _ _ => rfl⟩
theorem Chg.setCell {T : Nat → Prop} {A : World} {p : Addr} (hp : T p.block) (u : Value) : Chg T A (A.setCell p u) :=
  ⟨rfl, rfl, rfl, by simp [World.setCell], fun k _ hn => Below.heap_setCell A p u k (fun e => hn (by rw [e]; exact hp))⟩
theorem Chg.putObj {T : Nat → Prop} {A : World} {l : Nat} (hp : T l) (o : Obj) : Chg T A (A.putObj l o) :=
  ⟨rfl, rfl, rfl, by simp, fun k _ hn => World.putObj_heap_other (fun e => hn (by rw [e]; exact hp))⟩
theorem Chg.grown {T : Nat → Prop} {A B : World} {row : Option Nat} (hg : A.grownBy B row) (hr : ∀ k, row = some k → T k ∨ A.heap.size ≤ k) : Chg T A B :=
  ⟨hg.os, hg.tape, hg.output, hg.size, fun k hk hn => hg.block k hk (fun e => by
    rcases hr k e.symm with h1 | h1
    · exact hn h1
    · omega)⟩
theorem Chg.of_below {A B : World} {n : Nat} (h : Below n A B) : Chg (fun k => n ≤ k) A B := ⟨h.os, h.tape, h.output, h.size, fun k _ hn => h.block k (by omega)⟩
/-- a call that makes memory and turns none -/
theorem Chg.of_fresh {T : Nat → Prop} {A B : World} (h : Below A.heap.size A B) : Chg T A B := ⟨h.os, h.tape, h.output, h.size, fun k hk _ => h.block k hk⟩
theorem Chg.below {T : Nat → Prop} {A B : World} {n : Nat} (h : Chg T A B) (hn : n ≤ A.heap.size) (ht : ∀ k, T k → n ≤ k) : Below n A B :=
  ⟨h.os, h.tape, h.output, h.size, fun k hk => h.block k (by omega) (fun e => by have := ht k e; omega)⟩
theorem Chg.cell {T : Nat → Prop} {A B : World} (h : Chg T A B) {p : Addr} {v : Value} (hv : A.cell? p = some v) (hn : ¬ T p.block) : B.cell? p = some v := by
  rw [← hv]; exact World.cell?_of_block (h.block _ (by
    unfold World.cell? at hv
    cases ho : A.heap[p.block]? with
    | none => simp [ho] at hv
    | some o => exact (Array.getElem?_eq_some_iff.1 ho).1) hn)
theorem below_drewN {n : Nat} {A B : World} (h : Below n A B) (k : Nat) : Below n A (B.drewN k) := ⟨h.os, h.tape, h.output, h.size, h.block⟩
theorem cell_old (w : World) (o : Obj) (b off : Nat) (h : b < w.heap.size) : (w.alloc o).cell? ⟨b, off, none⟩ = w.cell? ⟨b, off, none⟩ :=
  World.cell?_of_block (Below.heap_alloc w o b h)
theorem frozen_old (w : World) (o : Obj) (b off : Nat) (h : b < w.heap.size) : (w.alloc o).frozen? ⟨b, off, none⟩ = w.frozen? ⟨b, off, none⟩ :=
  World.frozen?_of_block (Below.heap_alloc w o b h)
theorem cell_at (w : World) (v : Value) (t : TypeId) (b : Nat) (h : b = w.heap.size) : (w.alloc (.cells #[v] t)).cell? ⟨b, 0, none⟩ = some v := by
  subst h
  have := World.alloc_heap_new w (.cells #[v] t)
  unfold World.cell?
  simp only [this]
  rfl
theorem cells_at (w : World) (c : Array Value) (t : TypeId) (b off : Nat) (h : b = w.heap.size) : (w.alloc (.cells c t)).cell? ⟨b, off, none⟩ = c[off]? := by
  subst h
  have := World.alloc_heap_new w (.cells c t)
  unfold World.cell?
  simp only [this]
  rfl
theorem frozen_at (w : World) (c : Array Value) (t : TypeId) (b off : Nat) (h : b = w.heap.size) : (w.alloc (.cells c t)).frozen? ⟨b, off, none⟩ = false := by
  subst h
  have := World.alloc_heap_new w (.cells c t)
  unfold World.frozen?
  simp only [this]
  simp
theorem lt_of_cell {A : World} {p : Addr} {v : Value} (hv : A.cell? p = some v) : p.block < A.heap.size := by
  unfold World.cell? at hv
  cases ho : A.heap[p.block]? with
  | none => simp [ho] at hv
  | some o => exact (Array.getElem?_eq_some_iff.1 ho).1
theorem Chg.obj {T : Nat → Prop} {A B : World} (h : Chg T A B) {k : Nat} {o : Obj} (hv : A.heap[k]? = some o) (hn : ¬ T k) : B.heap[k]? = some o :=
  (h.block k (Array.getElem?_eq_some_iff.1 hv).1 hn).trans hv

theorem setCell_self {w : World} {p : Addr} {v : Value} (h : w.cell? p = some v) : w.setCell p v = w := by
  have key : w.heap.modify p.block (fun
      | .cells c elem frozen => .cells (if p.spot.isSome then c else c.setIfInBounds p.off v) elem frozen
      | o => o) = w.heap := by
    apply Array.ext
    · simp
    · intro i h1 h2
      rw [Array.getElem_modify]
      split
      · rename_i e
        subst e
        unfold World.cell? at h
        rw [Array.getElem?_eq_getElem h2] at h
        generalize w.heap[p.block] = o at h ⊢
        cases o <;> try rfl
        rename_i c elem fz
        simp only at h ⊢
        split at h
        · cases h
        · rename_i hn
          simp only [if_neg hn]
          congr 1
          apply Array.ext
          · simp
          · intro j g1 g2
            rw [Array.getElem_setIfInBounds]
            split
            · rename_i e
              subst e
              rw [Array.getElem?_eq_getElem g2] at h
              exact (Option.some.inj h).symm
            · rfl
      · rfl
  have hk : (w.setCell p v).heap = w.heap := key
  have e : w.setCell p v = { w with heap := (w.setCell p v).heap } := rfl
  rw [e, hk]

/-- The contract of an iterator's value at a world W.  The round's side owns the blocks M (a set that grows by what is new); the iterator turns no block that lay ahead of its call, and none of M.
  S xs: all have come. Sp pre: stopped by a round. Sx pre chain: it has panicked. -/
def IterAt {α : Type} (P : Program) (gf : FuncId) (lb : Array Value) (encs : α → Array Value) (S Sp : List α → Prop) (Sx : List α → List PanicEntry → Prop) (N : Nat) (Safe : Nat → Prop) (W : World) : Prop :=
  ∀ (l : Nat) (M0 : Nat → Prop) (J Jx : List α → (Nat → Prop) → World → Prop),
    (∀ k, M0 k → Safe k) →
    (∀ pre M A B, J pre M A → Chg (fun k => W.heap.size ≤ k ∧ ¬ M k) A B → J pre M B) →
    (∀ pre M A B, Jx pre M A → Chg (fun k => W.heap.size ≤ k ∧ ¬ M k) A B → Jx pre M B) →
    (∀ pre M A, J pre M A → ∀ k, M k → k < A.heap.size) →
    (∀ pre M x A, J pre M A → pre.length < N → YieldAt Fence.wide 0 P l (encs x) A fun e B =>
      (e = .returned (.bool true) ∧ ∃ M', J (pre ++ [x]) M' B ∧ Chg M A B ∧ ∀ k, M' k → M k ∨ A.heap.size ≤ k) ∨
      (e = .returned (.bool false) ∧ ∃ M', Jx (pre ++ [x]) M' B ∧ Chg M A B ∧ ∀ k, M' k → M k ∨ A.heap.size ≤ k)) →
    J [] M0 W →
    CallsIn Fence.wide 0 P gf (#[.func (.yield l) #[] #[]] ++ lb) W fun e W' =>
      (∃ v, e = .returned v ∧ ((∃ xs M, S xs ∧ J xs M W') ∨ (∃ pre M, Sp pre ∧ Jx pre M W'))) ∨
      (∃ chain pre M, e = .panicked chain ∧ Sx pre chain ∧ J pre M W')

/-- How the body of a round may be left. -/
def rfPost {α : Type} (I : List α → (Nat → Prop) → World → Prop) (Ix : Code → List α → (Nat → Prop) → World → Prop) (xs : List α) (M : Nat → Prop) (sz : Nat) (A : World) : Exit → Act → World → Prop
  | .normal, _, B => ∃ M', I xs M' B ∧ Chg (fun k => M k ∨ sz ≤ k) A B ∧ ∀ k, M' k → M k ∨ sz ≤ k
  | .ret, _, B => ∃ M', Ix .ret xs M' B ∧ Chg (fun k => M k ∨ sz ≤ k) A B ∧ ∀ k, M' k → M k ∨ sz ≤ k
  | .exit id, _, B => ∃ M', Ix (.exit id) xs M' B ∧ Chg (fun k => M k ∨ sz ≤ k) A B ∧ ∀ k, M' k → M k ∨ sz ≤ k
  | .goto t, _, B => ∃ M', Ix (.goto t) xs M' B ∧ Chg (fun k => M k ∨ sz ≤ k) A B ∧ ∀ k, M' k → M k ∨ sz ≤ k
  | .panic _, _, _ => False
  | .outgrown, _, _ => False

theorem wide_any {n m : Nat} {P : Program} {f : FuncId} {args : Array Value} {w : World} {R : Ending → World → Prop} (h : CallsIn Fence.wide n P f args w R) : CallsIn Fence.wide m P f args w R :=
  callsIn_wide.2 (callsIn_wide.1 h)

theorem roundIn_any {n m : Nat} {P : Program} {l : Nat} {f : FuncId} {tmps : Array Value} {assign body : Code} {w : World} {R : Ending → World → Prop}
    (h : RoundIn Fence.wide n P l f tmps assign body w R) : RoundIn Fence.wide m P l f tmps assign body w R :=
  ⟨h.1, fun c cs _ => h.2 c cs (room_wide _)⟩

/-- The statement 'for .. := range g { .. }', of an activation that is no round's. L = w.heap.size + 1 is the loop's record, w.heap.size the block for the rounds' deferred calls. -/
theorem wp_rangeFunc {α : Type} {n : Nat} {P : Program} {g : Operand} {ps : Array Tmp} {assign body : Code} {Q : Exit → Act → World → Prop} {a : Act} {w : World}
    {gf : FuncId} {lb : Array Value} (hg : a.eval g = .func (.func gf) #[] lb) (eg : Enters P gf)
    {encs : α → Array Value} {S Sp : List α → Prop} {Sx : List α → List PanicEntry → Prop} {N : Nat} {Safe : Nat → Prop}
    (hseq : ∀ W1, Chg (fun _ => False) w W1 → W1.heap.size = w.heap.size + 2 → IterAt P gf lb encs S Sp Sx N Safe W1)
    (hL : Safe (w.heap.size + 1))
    (hps : ∀ x, (encs x).size = ps.size)
    (M0 : Nat → Prop) (hM0 : ∀ k, M0 k → Safe k ∧ k < w.heap.size)
    (I : List α → (Nat → Prop) → World → Prop) (Ix : Code → List α → (Nat → Prop) → World → Prop)
    (hI : ∀ pre M A B, I pre M A → Chg (fun k => w.heap.size ≤ k ∧ ¬ M k) A B → I pre M B)
    (hIx : ∀ c pre M A B, Ix c pre M A → Chg (fun k => w.heap.size ≤ k ∧ ¬ M k) A B → Ix c pre M B)
    (hIM : ∀ pre M A, I pre M A → ∀ k, M k → k < A.heap.size)
    (h0 : I [] M0 w) (a₁ : α → Act → World → Prop)
    (ha₁ : ∀ x a1 A B, a₁ x a1 A → Chg (fun k => k = w.heap.size + 1) A B → a₁ x a1 B)
    (hassign : ∀ (l : Nat) (x : α) (W : World), w.heap.size + 2 ≤ W.heap.size → assign.wpIn (Fence.wide.inRound l) 0 P (fun e a1 W' => e = .normal ∧ a₁ x a1 W' ∧ Chg (fun _ => False) W W')
      { tmps := (ps.zip (encs x)).foldl (fun t (p, v) => t.setIfInBounds p v) a.tmps, defers := [] } W)
    (hbody : ∀ (l : Nat) (pre : List α) (M : Nat → Prop) (x : α) (a1 : Act) (sz : Nat) (W : World), I pre M W → (∀ k, M k → k < sz) → pre.length < N → a₁ x a1 W → w.heap.size + 2 ≤ sz → sz ≤ W.heap.size →
      body.wpIn (Fence.wide.inRound l) 0 P (rfPost I Ix (pre ++ [x]) M sz W) a1 W)
    (hdone : ∀ (D : Nat) (xs : List α) (M : Nat → Prop) (W : World), D = w.heap.size → S xs → I xs M W → W.heap[D]? = some (.deferred (some [])) → Q .normal { a with defers := { target := .collected D, args := #[] } :: a.defers } W)
    (hstop : ∀ (D : Nat) (c : Code) (pre : List α) (M : Nat → Prop) (W : World), D = w.heap.size → Sp pre → Ix c pre M W → W.heap[D]? = some (.deferred (some [])) → c.wpIn Fence.wide n P Q { a with defers := { target := .collected D, args := #[] } :: a.defers } W)
    (hpanic : ∀ (D : Nat) (chain : List PanicEntry) (pre : List α) (M : Nat → Prop) (W : World), D = w.heap.size → Sx pre chain → I pre M W → W.heap[D]? = some (.deferred (some [])) → Q (.panic chain) { a with defers := { target := .collected D, args := #[] } :: a.defers } W) :
    (Code.rangeFunc g ps assign body).wpIn Fence.wide n P Q a w := by
  refine wpIn_rangeFunc ?_
  intro fn hfn
  obtain ⟨rec, hrec⟩ : ∃ rec : LoopState → Option Code → Loop, rec = fun st pe => { state := st, pending := pe, fn, tmps := a.tmps, params := ps, assign, body, defers := w.heap.size } := ⟨_, rfl⟩
  obtain ⟨W1, hW1⟩ : ∃ W1, (w.alloc (.deferred (some []))).alloc (.loop (rec .ready none)) = W1 := ⟨_, rfl⟩
  have hc1 : Chg (fun _ => False) w W1 := by rw [← hW1]; exact (Chg.alloc _ _ _).trans (Chg.alloc _ _ _)
  have hs1 : W1.heap.size = w.heap.size + 2 := by rw [← hW1]; simp
  have hL1 : W1.heap[w.heap.size + 1]? = some (.loop (rec .ready none)) := by
    rw [← hW1]; have := World.alloc_heap_new (w.alloc (.deferred (some []))) (.loop (rec .ready none)); rwa [World.size_alloc] at this
  have hK1 : W1.heap[w.heap.size]? = some (.deferred (some [])) := by
    rw [← hW1]; exact (Below.heap_alloc _ _ _ (by simp)).trans (World.alloc_heap_new w _)
  have hI1 : I [] M0 W1 := hI _ _ _ _ h0 (hc1.mono (fun _ h => h.elim))
  refine ⟨w.heap.size + 1, [{ target := .collected w.heap.size, args := #[] }], W1, { target := .fn (.func gf) lb, args := #[.func (.yield (w.heap.size + 1)) #[] #[]] }, W1, gf,
    #[.func (.yield (w.heap.size + 1)) #[] #[]] ++ lb, W1, ?_, ?_, ?_, ?_, fun h => by simp [Fence.wide] at h, ?_⟩
  · rw [← hW1, hrec]; exact run_enterLoop_outer _ _ _ _ _
  · simp only [resolve, hg]
    simp [go_sem]
  · intro f' _; trivial
  · have := eg; unfold Enters at this; simp [invoke, go_sem, this]
  · refine wide_any (n := 0) ?_
    refine (hseq W1 hc1 hs1 (w.heap.size + 1) (fun k => M0 k ∨ k = w.heap.size + 1)
      (fun pre M W => ∃ Mu : Nat → Prop, (∀ k, M k ↔ (Mu k ∨ k = w.heap.size + 1)) ∧ ¬ Mu (w.heap.size + 1) ∧ ¬ Mu w.heap.size ∧ I pre Mu W ∧ w.heap.size + 2 ≤ W.heap.size ∧ W.heap[w.heap.size + 1]? = some (.loop (rec .ready none)) ∧ W.heap[w.heap.size]? = some (.deferred (some [])))
      (fun pre M W => ∃ Mu : Nat → Prop, ∃ c, (∀ k, M k ↔ (Mu k ∨ k = w.heap.size + 1)) ∧ Ix c pre Mu W ∧ ¬ Mu (w.heap.size + 1) ∧ W.heap[w.heap.size + 1]? = some (.loop (rec .done (some c))) ∧ ¬ Mu w.heap.size ∧ W.heap[w.heap.size]? = some (.deferred (some [])))
      ?_ ?_ ?_ ?_ ?_ ?_).mono ?_
    · rintro k (h | rfl)
      · exact (hM0 k h).1
      · exact hL
    · rintro pre M A B ⟨Mu, hM, hl, hd, hi, hsz, h1, h2⟩ hc
      refine ⟨Mu, hM, hl, hd, hI _ _ _ _ hi (hc.mono fun k hk => ⟨by omega, fun e => hk.2 ((hM k).2 (.inl e))⟩), by have := hc.size; omega, hc.obj h1 (fun e => e.2 ((hM _).2 (.inr rfl))), hc.obj h2 (fun e => by omega)⟩
    · rintro pre M A B ⟨Mu, c, hM, hi, hl, h1, hd, h2⟩ hc
      refine ⟨Mu, c, hM, hIx _ _ _ _ _ hi (hc.mono fun k hk => ⟨by omega, fun e => hk.2 ((hM k).2 (.inl e))⟩), hl, hc.obj h1 (fun e => e.2 ((hM _).2 (.inr rfl))), hd, hc.obj h2 (fun e => by omega)⟩
    · rintro pre M A ⟨Mu, hM, hl, hd, hi, hsz, h1, h2⟩ k hk
      rcases (hM k).1 hk with h | rfl
      · exact hIM _ _ _ hi k h
      · exact (Array.getElem?_eq_some_iff.1 h1).1
    · rintro pre M x A ⟨Mu, hM, hl, hd, hi, hsz, h1, h2⟩ hlen
      have hlt : w.heap.size + 1 < A.heap.size := by omega
      have hy := run_yield (P := P) (args := encs x) h1 (by rw [hrec]; exact hps x)
      rw [hrec] at hy
      refine ⟨fn, _, assign, body, hy, roundIn_any (n := 0) (roundIn_of_wpIn hfn (wpIn_mono (hassign _ x A hsz) ?_))⟩
      rintro e a1 A1 ⟨rfl, ha, hc⟩
      have h1' := hc.obj h1 (fun e => e)
      have h2' := hc.obj h2 (fun e => e)
      refine ⟨_, run_beginRound h1' (by rw [hrec]), ?_⟩
      have hlt1 : w.heap.size + 1 < A1.heap.size := by have := hc.size; omega
      have hl2 : (A1.putObj (w.heap.size + 1) (.loop { rec .ready none with state := .busy })).heap[w.heap.size + 1]? = some (.loop { rec .ready none with state := .busy }) := World.putObj_heap_same hlt1
      have hk2 : (A1.putObj (w.heap.size + 1) (.loop { rec .ready none with state := .busy })).heap[w.heap.size]? = some (.deferred (some [])) := (World.putObj_heap_other (by omega)).trans h2'
      have hc2 : Chg (fun k => k = w.heap.size + 1) A1 (A1.putObj (w.heap.size + 1) (.loop { rec .ready none with state := .busy })) := Chg.putObj (T := fun k => k = w.heap.size + 1) rfl _
      generalize A1.putObj (w.heap.size + 1) (.loop { rec .ready none with state := .busy }) = A2 at hl2 hk2 hc2
      have hc02 : Chg (fun k => k = w.heap.size + 1) A A2 := (hc.mono (fun _ h => h.elim)).trans hc2
      have hi2 : I pre Mu A2 := hI _ _ _ _ hi (hc02.mono (fun k hk => ⟨by omega, fun e => hl (by rw [← hk]; exact e)⟩))
      refine wpIn_mono (hbody _ pre Mu x a1 A.heap.size A2 hi2 (hIM _ _ _ hi) hlen (ha₁ _ _ _ _ ha hc2) hsz hc02.size) ?_
      have fin : ∀ (jump : Option Code) (B2 : World) (M' : Nat → Prop), Chg (fun k => Mu k ∨ A.heap.size ≤ k) A2 B2 → (∀ k, M' k → Mu k ∨ A.heap.size ≤ k) →
          ∃ B, (Instr.endRound (w.heap.size + 1) jump).run P B2 = .ok (.bool jump.isNone) B ∧ B.heap[w.heap.size + 1]? = some (.loop (rec (if jump.isNone then .ready else .done) jump)) ∧ B.heap[w.heap.size]? = some (.deferred (some [])) ∧
            Chg (fun k => w.heap.size ≤ k ∧ ¬ M' k) B2 B ∧ Chg M A B ∧ ¬ M' (w.heap.size + 1) ∧ ¬ M' w.heap.size ∧ (∀ k, (M' k ∨ k = w.heap.size + 1) → M k ∨ A.heap.size ≤ k) ∧ w.heap.size + 2 ≤ B.heap.size := by
        intro jump B2 M' hcb hm
        have hn1 : ¬ M' (w.heap.size + 1) := fun e => (hm _ e).elim (fun h => hl h) (fun h => by omega)
        have hn0 : ¬ M' w.heap.size := fun e => (hm _ e).elim (fun h => hd h) (fun h => by omega)
        have hl3 := hcb.obj hl2 (fun e => e.elim (fun h => hl h) (fun h => by omega))
        have hd3 := hcb.obj hk2 (fun e => e.elim (fun h => hd h) (fun h => by omega))
        have := run_endRound (P := P) jump hl3
        rw [hrec] at this
        have hlt3 := (Array.getElem?_eq_some_iff.1 hl3).1
        refine ⟨_, this, by rw [World.putObj_heap_same hlt3, hrec], (World.putObj_heap_other (by omega)).trans hd3, Chg.putObj ⟨by omega, hn1⟩ _, ?_, hn1, hn0, ?_, by rw [World.putObj_size]; omega⟩
        · refine ((hc02.mono (fun k hk => (hM k).2 (.inr hk))).trans' hcb ?_).trans' (Chg.putObj (T := fun k => k = w.heap.size + 1) rfl _) (fun i hi => .inl ((hM i).2 (.inr hi)))
          rintro i (h | h)
          · exact .inl ((hM i).2 (.inl h))
          · exact .inr h
        · rintro k (h | h)
          · rcases hm k h with h | h
            · exact .inl ((hM k).2 (.inl h))
            · exact .inr h
          · exact .inl ((hM k).2 (.inr h))
      rintro e a3 B2 hp
      cases e with
      | normal =>
        obtain ⟨M', hi3, hcb, hm⟩ := hp
        obtain ⟨B, hr, hb1, hb2, hcB, hcA, hn1, hn0, hmm, hsz'⟩ := fin none B2 M' hcb hm
        exact ⟨_, B, hr, .inl ⟨rfl, _, ⟨M', fun _ => Iff.rfl, hn1, hn0, hI _ _ _ _ hi3 hcB, hsz', hb1, hb2⟩, hcA, hmm⟩⟩
      | ret =>
        obtain ⟨M', hi3, hcb, hm⟩ := hp
        obtain ⟨B, hr, hb1, hb2, hcB, hcA, hn1, hn0, hmm, hsz'⟩ := fin (some .ret) B2 M' hcb hm
        exact ⟨_, B, hr, .inr ⟨rfl, _, ⟨M', .ret, fun _ => Iff.rfl, hIx _ _ _ _ _ hi3 hcB, hn1, hb1, hn0, hb2⟩, hcA, hmm⟩⟩
      | exit id =>
        obtain ⟨M', hi3, hcb, hm⟩ := hp
        obtain ⟨B, hr, hb1, hb2, hcB, hcA, hn1, hn0, hmm, hsz'⟩ := fin (some (.exit id)) B2 M' hcb hm
        exact ⟨_, B, hr, .inr ⟨rfl, _, ⟨M', .exit id, fun _ => Iff.rfl, hIx _ _ _ _ _ hi3 hcB, hn1, hb1, hn0, hb2⟩, hcA, hmm⟩⟩
      | goto t =>
        obtain ⟨M', hi3, hcb, hm⟩ := hp
        obtain ⟨B, hr, hb1, hb2, hcB, hcA, hn1, hn0, hmm, hsz'⟩ := fin (some (.goto t)) B2 M' hcb hm
        exact ⟨_, B, hr, .inr ⟨rfl, _, ⟨M', .goto t, fun _ => Iff.rfl, hIx _ _ _ _ _ hi3 hcB, hn1, hb1, hn0, hb2⟩, hcA, hmm⟩⟩
      | panic ch => exact hp.elim
      | outgrown => exact hp.elim
    · exact ⟨M0, fun _ => Iff.rfl, fun e => by have := (hM0 _ e).2; omega, fun e => by have := (hM0 _ e).2; omega, hI1, by omega, hL1, hK1⟩
    · rintro e W2 (⟨v, rfl, (⟨xs, M, hS, Mu, hM, hl, hd, hi, hsz, h1, h2⟩ | ⟨pre, M, hSp, Mu, c, hM, hi, hl, h1, hd, h2⟩)⟩ | ⟨chain, pre, M, rfl, hSx, Mu, hM, hl, hd, hi, hsz, h1, h2⟩)
      · have := run_endLoop (P := P) h1 (by rw [hrec]; simp)
        rw [hrec] at this
        exact ⟨none, _, this, hdone _ xs Mu _ rfl hS (hI _ _ _ _ hi (Chg.putObj ⟨by omega, hl⟩ _)) ((World.putObj_heap_other (by omega)).trans h2)⟩
      · have := run_endLoop (P := P) h1 (by rw [hrec]; simp)
        rw [hrec] at this
        exact ⟨some c, _, this, hstop _ c pre Mu _ rfl hSp (hIx _ _ _ _ _ hi (Chg.putObj ⟨by omega, hl⟩ _)) ((World.putObj_heap_other (by omega)).trans h2)⟩
      · exact hpanic _ chain pre Mu _ rfl hSx hi h2
end Go.Proofs.YtmkfeanggmjhmaaGreat.K

/- sync.Once at this program, one goroutine, not yet done (after the worked proofs on sync.Once, at this program's numbers). -/
namespace Go.Proofs.YtmkfeanggmjhmaaGreat.Rp
open Go Go.RowKit
set_option linter.unusedSimpArgs false
set_option linter.unusedVariables false

theorem disable (w : World) : (callFunc 101 #[]).run Tryz.prog w = .ok (.value (.tuple #[])) w := run_call_mark0 Tryz.func101 (by kernel_rfl) (by kernel_rfl) (by kernel_rfl) .disable (by kernel_rfl) w
theorem enable (w : World) : (callFunc 103 #[]).run Tryz.prog w = .ok (.value (.tuple #[])) w := run_call_mark0 Tryz.func103 (by kernel_rfl) (by kernel_rfl) (by kernel_rfl) .enable (by kernel_rfl) w
theorem acquire (a : Addr) (w : World) : (callFunc 104 #[.pointer (some a)]).run Tryz.prog w = .ok (.value (.tuple #[])) w := run_call_marked Tryz.func104 (by kernel_rfl) (by kernel_rfl) (by kernel_rfl) .acquire (by kernel_rfl) a w
theorem releaseMerge (a : Addr) (w : World) : (callFunc 106 #[.pointer (some a)]).run Tryz.prog w = .ok (.value (.tuple #[])) w := run_call_marked Tryz.func106 (by kernel_rfl) (by kernel_rfl) (by kernel_rfl) .releaseMerge (by kernel_rfl) a w

theorem store_deferred (a : Addr) (x : Value) (u : FrameMode) (w : World) (hc : w.cell? a = some x) (hz : w.frozen? a = false) :
    CallsD Tryz.prog 91 #[.pointer (some a), .bool true] u w fun e u' w' => u' = u ∧ (e = .returned (.tuple #[]) ∧ w' = w.drew.setCell a (.int .u32 1)) := by
  have hc' : w.drew.cell? a = some x := by go_simp
  have hz' : w.drew.frozen? a = false := by go_simp
  have hst := run_call_store (P := Tryz.prog) Tryz.func97 (by kernel_rfl) (by kernel_rfl) (by kernel_rfl) (by kernel_rfl) (k := .u32) (y := 1) hc' hz'
  go_enter_d Tryz.func91, Tryz.ntmps91
  go_wp2
  go_region_calls
  all_goals (go_end0; exact ⟨rfl, rfl⟩)

set_option maxRecDepth 100000 in
theorem unlock_deferred (a : Addr) (u : FrameMode) (w : World) (hc : w.cell? a = some (.int .i32 1)) (hz : w.frozen? a = false) :
    CallsD Tryz.prog 90 #[.pointer (some a)] u w fun e u' w' => u' = u ∧ (e = .returned (.tuple #[]) ∧ w' = w.setCell a (.int .i32 0)) := by
  have hd := disable
  have he := enable
  have hr := releaseMerge
  have hadd := run_call_add (P := Tryz.prog) Tryz.func107 (by kernel_rfl) (by kernel_rfl) (by kernel_rfl) .i32 (by kernel_rfl) (y := -1) (s := 0) hc hz (by simp [go_sem]; rfl)
  have hcv := run_convert_to_unsafe (P := Tryz.prog) (src := 158) (dst := 142) Tryz.underlying158 Tryz.underlying142 (by kernel_rfl) hc
  go_enter_d Tryz.func90, Tryz.ntmps90
  go_wp2
  go_end0
  go_wp2
  go_end0
  exact ⟨rfl, rfl⟩

set_option maxRecDepth 100000 in
theorem lock_free (a : Addr) (w : World) (hc : w.cell? a = some (.int .i32 0)) (hz : w.frozen? a = false) :
    Calls Tryz.prog 89 #[.pointer (some a)] w fun e w' => e = .returned (.tuple #[]) ∧ w' = w.setCell a (.int .i32 1) := by
  have hd := disable
  have he := enable
  have ha := acquire
  have hcas := run_call_cas_hit (P := Tryz.prog) Tryz.func102 (by kernel_rfl) (by kernel_rfl) (by kernel_rfl) .i32 (by kernel_rfl) (y := 1) hc hz
  have hc' : (w.setCell a (.int .i32 1)).cell? a = some (.int .i32 1) := World.cell?_setCell_same w a _ hc
  have hcv := run_convert_to_unsafe (P := Tryz.prog) (src := 158) (dst := 142) Tryz.underlying158 Tryz.underlying142 (by kernel_rfl) hc'
  go_enter Tryz.func89, Tryz.ntmps89
  go_wp2
  first | go_end0 | (simp only [Exit.inBlock, Exit.then]; refine bodyPost_ret (results_none rfl _ _ _) rfl ?_) | refine bodyPost_ret (results_none rfl _ _ _) rfl ?_
  go_wp2
  go_end0
  exact ⟨rfl, rfl⟩

/-- the world behind what Once calls: its two marks laid -/
def onceEnd (b : Nat) (W : World) : World := (W.drew.setCell ⟨b, 0, none⟩ (.int .u32 1)).setCell ⟨b, 1, none⟩ (.int .i32 0)

set_option maxRecDepth 100000 in
set_option maxHeartbeats 1600000 in
theorem slow_calls (b : Nat) (w : World) (h0 : w.cell? ⟨b, 0, none⟩ = some (.int .u32 0)) (h1 : w.cell? ⟨b, 1, none⟩ = some (.int .i32 0))
    (f0 : w.frozen? ⟨b, 0, none⟩ = false) (f1 : w.frozen? ⟨b, 1, none⟩ = false) (R : World → Prop)
    (hR : ∀ W, R W → W.cell? ⟨b, 0, none⟩ = some (.int .u32 0) ∧ W.cell? ⟨b, 1, none⟩ = some (.int .i32 1) ∧ W.frozen? ⟨b, 0, none⟩ = false ∧ W.frozen? ⟨b, 1, none⟩ = false)
    (hf : Calls Tryz.prog 74 #[.pointer (some ⟨b, 0, none⟩)] (w.setCell ⟨b, 1, none⟩ (.int .i32 1)) fun e w' => e = .returned (.tuple #[]) ∧ R w') :
    Calls Tryz.prog 84 #[.pointer (some ⟨b, 0, none⟩), .func (.func 74) #[.pointer (some ⟨b, 0, none⟩)] #[]] w fun e w' => e = .returned (.tuple #[]) ∧ ∃ W, R W ∧ w' = onceEnd b W := by
  have hl := run_call_load (P := Tryz.prog) Tryz.func88 (by kernel_rfl) (by kernel_rfl) (by kernel_rfl) .u32 (by kernel_rfl) (w := w.setCell ⟨b, 1, none⟩ (.int .i32 1)) (a := ⟨b, 0, none⟩) (x := 0) ((World.cell?_setCell_other _ ⟨b, 1, none⟩ ⟨b, 0, none⟩ _ (by simp)).trans h0)
  have hnot : ∀ (x : Bool) (w : World), (Op.unary .not (.bool x)).run Tryz.prog w = .ok (.bool (!x)) w := fun _ _ => rfl
  have HF := Lib.hid hf
  have HR := Lib.hid hR
  clear hf hR
  go_enter_defers Tryz.func84, Tryz.ntmps84
  go_wp2_with (first
    | (go_at_call 89; refine (lock_free ⟨b, 1, none⟩ _ (by go_simp) (by go_simp)).mono ?_; rintro e w' ⟨rfl, rfl⟩)
    | (go_at_call 83; go_in)
    | (go_at_call 74; refine HF.out.mono ?_; rintro e W ⟨rfl, hW⟩))
  obtain ⟨k0, k1, k2, k3⟩ := HR.out W hW
  refine leaves_cons (f := 91) (args := #[.pointer (some ⟨b, 0, none⟩), .bool true]) (by simp) (by simp [go_sem]) ?_
  refine (store_deferred ⟨b, 0, none⟩ (.int .u32 0) .returning _ k0 k2).mono ?_
  rintro e u' w'' ⟨rfl, rfl, rfl⟩
  refine leaves_cons (f := 90) (args := #[.pointer (some ⟨b, 1, none⟩)]) (by simp [settle]) (by simp [go_sem]) ?_
  refine (unlock_deferred ⟨b, 1, none⟩ _ _ ?_ ?_).mono ?_
  · refine (World.cell?_setCell_other _ ⟨b, 0, none⟩ ⟨b, 1, none⟩ _ (by simp)).trans ?_
    rw [World.cell?_drew]
    exact k1
  · simpa using k3
  rintro e u' w'' ⟨rfl, rfl, rfl⟩
  simp [Leaves, settle, results, Tryz.results84]
  exact ⟨W, hW, rfl⟩

theorem do_calls (b : Nat) (w : World) (h0 : w.cell? ⟨b, 0, none⟩ = some (.int .u32 0)) (h1 : w.cell? ⟨b, 1, none⟩ = some (.int .i32 0))
    (f0 : w.frozen? ⟨b, 0, none⟩ = false) (f1 : w.frozen? ⟨b, 1, none⟩ = false) (R : World → Prop)
    (hR : ∀ W, R W → W.cell? ⟨b, 0, none⟩ = some (.int .u32 0) ∧ W.cell? ⟨b, 1, none⟩ = some (.int .i32 1) ∧ W.frozen? ⟨b, 0, none⟩ = false ∧ W.frozen? ⟨b, 1, none⟩ = false)
    (hf : Calls Tryz.prog 74 #[.pointer (some ⟨b, 0, none⟩)] (w.setCell ⟨b, 1, none⟩ (.int .i32 1)) fun e w' => e = .returned (.tuple #[]) ∧ R w') :
    Calls Tryz.prog 73 #[.pointer (some ⟨b, 0, none⟩), .func (.func 74) #[.pointer (some ⟨b, 0, none⟩)] #[]] w fun e w' => e = .returned (.tuple #[]) ∧ ∃ W, R W ∧ w' = onceEnd b W := by
  have HS := Lib.hid (slow_calls b w h0 h1 f0 f1 R hR hf)
  have hl := run_call_load (P := Tryz.prog) Tryz.func88 (by kernel_rfl) (by kernel_rfl) (by kernel_rfl) .u32 (by kernel_rfl) h0
  have hnot : ∀ (x : Bool) (w : World), (Op.unary .not (.bool x)).run Tryz.prog w = .ok (.bool (!x)) w := fun _ _ => rfl
  clear hR hf
  go_enter Tryz.func73, Tryz.ntmps73
  go_wp2_with (first | (go_at_call 84; refine HS.out.mono ?_; rintro e w' ⟨rfl, hW⟩) | (go_at_call 83; go_in))
  go_end0
  exact ⟨rfl, hW⟩
end Go.Proofs.YtmkfeanggmjhmaaGreat.Rp

/- strings.Builder at this program: copyCheck, WriteByte, WriteString (after the shelf's contracts, at this dump's own numbers). -/
namespace Go.Proofs.YtmkfeanggmjhmaaGreat.Bld
open Go Go.RowKit Go.Proofs.YtmkfeanggmjhmaaGreat.K
set_option linter.unusedVariables false
set_option linter.unusedSimpArgs false

theorem sizeBuilder : (Tryz.prog.info? 117).map (·.size) = some 2 := by kernel_rfl
theorem liesBuilder : liesAt Tryz.prog Tryz.prog.depth 117 (2 / Tryz.prog.cellsOf 117) 0 117 1 = true := by kernel_rfl
theorem infoByte : (Tryz.prog.info? 5).map (fun i => (i.zero, i.size, i.bytes)) = some (some (.int .u8 0), 1, 1) := by kernel_rfl

set_option maxRecDepth 100000 in
set_option maxHeartbeats 1000000 in
theorem copyCheck_used (b : Nat) (w : World) (h0 : w.cell? ⟨b, 0, none⟩ = some (.pointer (some ⟨b, 0, none⟩))) :
    Calls Tryz.prog 87 #[.pointer (some ⟨b, 0, none⟩)] w fun e w' => e = .returned (.tuple #[]) ∧ w' = w := by
  obtain ⟨j, hj, _⟩ := Option.map_eq_some_iff.1 sizeBuilder
  go_enter Tryz.func87, Tryz.ntmps87
  go_wp2
  rw [Lib.run_neq_ptr_same w _ Tryz.underlying114 hj]
  go_wp2
  go_end0
  exact ⟨rfl, rfl⟩

set_option maxRecDepth 100000 in
set_option maxHeartbeats 1000000 in
theorem copyCheck_fresh (b : Nat) (w : World) (h0 : w.cell? ⟨b, 0, none⟩ = some (.pointer none)) (hsh : w.shape? b = some (117, 2)) (hfz : w.frozen? ⟨b, 0, none⟩ = false) :
    Calls Tryz.prog 87 #[.pointer (some ⟨b, 0, none⟩)] w fun e w' => e = .returned (.tuple #[]) ∧ w' = w.setCell ⟨b, 0, none⟩ (.pointer (some ⟨b, 0, none⟩)) := by
  obtain ⟨j, hj, hjs⟩ := Option.map_eq_some_iff.1 sizeBuilder
  go_enter Tryz.func87, Tryz.ntmps87
  go_wp2
  rw [Lib.run_to_unsafe w ⟨b, 0, none⟩ Tryz.underlying114 Tryz.underlying142 hj (by rw [hjs]; decide) hsh (Nat.zero_lt_succ 1)]
  simp only [Result.andThen]
  rw [Oper.upon_value]
  go_wp2
  rw [run_callFunc_extern Tryz.func94 (by kernel_rfl) (by kernel_rfl) (by kernel_rfl) (e := Extern.AbiNoEscape.same) (by kernel_rfl)]
  rw [Lib.run_noEscape]
  simp only [Result.andThen]
  rw [Oper.upon_value]
  go_wp2
  rw [Lib.run_from_unsafe w ⟨b, 0, none⟩ Tryz.underlying142 Tryz.underlying114 hj hsh liesBuilder]
  simp only [Result.andThen]
  rw [Oper.upon_value]
  go_wp2
  go_end0
  exact ⟨rfl, rfl⟩

theorem copyCheck_calls (B b : Nat) (bs : List Value) (w : World) (h : Lib.IsBuilder 117 5 B b bs w) :
    Calls Tryz.prog 87 #[.pointer (some ⟨b, 0, none⟩)] w fun e w' => e = .returned (.tuple #[]) ∧ (Lib.BuilderAt 117 5 B b (.pointer (some ⟨b, 0, none⟩)) bs w' ∧ Below B w w') := by
  rcases h with h | h
  · refine (copyCheck_fresh b w h.cell0 h.shape h.frozen0).mono ?_
    rintro e w' ⟨rfl, rfl⟩
    exact ⟨rfl, h.used _, (Below.refl B w).setCell (p := ⟨b, 0, none⟩) h.1 _⟩
  · refine (copyCheck_used b w h.cell0).mono ?_
    rintro e w' ⟨rfl, rfl⟩
    exact ⟨rfl, h, Below.refl B _⟩

set_option maxRecDepth 100000 in
set_option maxHeartbeats 2000000 in
theorem WriteByte_calls (B b : Nat) (bs : List Value) (c : Int) (w : World) (h : Lib.IsBuilder 117 5 B b bs w) (hlen : bs.length + 1 ≤ 140737488355328) (hBw : B ≤ w.heap.size) :
    Calls Tryz.prog 80 #[.pointer (some ⟨b, 0, none⟩), .int .u8 c] w fun e w' => e = .returned .nilIface ∧ (Lib.IsBuilder 117 5 B b (bs ++ [.int .u8 c]) w' ∧ Below B w w') := by
  obtain ⟨i0, hi, hz0, hz1, hz2⟩ := info_parts infoByte
  go_enter Tryz.func80, Tryz.ntmps80
  go_wp2_with (go_at_call 87; refine (copyCheck_calls B b bs _ h).mono ?_)
  rintro e w1 ⟨rfl, h1, hb1⟩
  obtain ⟨hB, v, hbk, hown, hne⟩ := h1
  have c0 : w1.cell? ⟨b, 0, none⟩ = some (.pointer (some ⟨b, 0, none⟩)) := by rw [Lib.cell_of_heap hbk]; rfl
  have c1 : w1.cell? ⟨b, 1, none⟩ = some v := by rw [Lib.cell_of_heap hbk]; rfl
  go_wp2_with (at_builtin; refine wpList_append_own _ rfl _ _ 115 rfl B 5 i0 (.int .u8 0) 1 1 Tryz.underlying115 hi hz0 hz1 hz2 rfl (by decide) _ _ _ rfl (hown.alloc _) ⟨w1.heap.size, 0, none⟩ 1 1 [.int .u8 c] rfl rfl ?c1 ?c2 ?c3 ?c4 ?c5 ?_)
  case c1 =>
    intro j u hj
    match j, hj with
    | 0, hj => simp at hj; subst hj; simp [Addr.add]
  case c2 => intro u hu; simp at hu; subst hu; rfl
  case c3 => unfold maxLen; omega
  case c4 => omega
  case c5 => have := hb1.size; simp; omega
  intro v' w2 hown' hgrow _
  have hlt : b < w1.heap.size := by
    rcases Nat.lt_or_ge b w1.heap.size with h' | h'
    · exact h'
    · simp [Array.getElem?_eq_none h'] at hbk
  have hb2 : w2.heap[b]? = some (.cells #[.pointer (some ⟨b, 0, none⟩), v] 117 (0, 0)) := by
    rw [hgrow.block b (by simp; omega) (fun e => hne e.symm), Lib.alloc_old w1 _ b hlt]
    exact hbk
  have d0 : w2.cell? ⟨b, 0, none⟩ = some (.pointer (some ⟨b, 0, none⟩)) := by rw [Lib.cell_of_heap hb2]; rfl
  have d1 : w2.cell? ⟨b, 1, none⟩ = some v := by rw [Lib.cell_of_heap hb2]; rfl
  have f1 : w2.frozen? ⟨b, 1, none⟩ = false := Lib.frozen_of_heap hb2 1
  obtain ⟨g, cap, rfl⟩ : ∃ g cap, v' = .slice (some ⟨g, 0, none⟩) (bs.length + 1) cap := by
    rcases hown'.2 with ⟨_, h0⟩ | ⟨g, cap, cur, hv, _⟩
    · omega
    · exact ⟨g, cap, hv⟩
  go_wp2
  go_ret
  refine ⟨rfl, .inr ?_, ?_⟩
  · exact Lib.BuilderAt.put (T := 117) (e := 5) hB hb2 (bs' := bs ++ [.int .u8 c]) (by simpa using hown') (by decide)
  · exact ((hb1.alloc (by have := hb1.size; omega) _).grown hgrow (by have := hb1.size; simp; omega) (fun k hk => (hown.lt k hk).1)).setCell (p := ⟨b, 1, none⟩) hB _

/-- a new builder -/
theorem fresh (w : World) : Lib.IsBuilder 117 5 w.heap.size w.heap.size [] (w.alloc (.cells #[.pointer none, .slice none 0 0] 117)) := by
  refine .inl ⟨Nat.le_refl _, .slice none 0 0, World.alloc_heap_new w _, World.ownsRow_nil _ _ _ _, by simp [Value.ownBlock]⟩
end Go.Proofs.YtmkfeanggmjhmaaGreat.Bld

/- Walks of the scanner's small functions. -/
namespace Go.Proofs.YtmkfeanggmjhmaaGreat.S
open Go Go.RowKit Go.Proofs.YtmkfeanggmjhmaaGreatW.PrintWords Go.Proofs.YtmkfeanggmjhmaaGreatW.PrintLast Go.Proofs.YtmkfeanggmjhmaaGreatW.PrintMore
open Go.Proofs.YtmkfeanggmjhmaaGreat.M Go.Proofs.YtmkfeanggmjhmaaGreat.K
set_option linter.unusedSimpArgs false
set_option linter.unusedVariables false

theorem letter_calls (c : Int) (h0 : 0 ≤ c) (h1 : c ≤ 255) (w : World) :
    Calls Tryz.prog 60 #[.int .u8 c] w fun e w' => e = .returned (.bool (letterB c)) ∧ Drawn0 w w' := by
  have key : ∀ n : Fin 256, (decide (97 ≤ (Go.bits .or .u8 (n.val : Int) 32)) && decide ((Go.bits .or .u8 (n.val : Int) 32) ≤ 122) || ((n.val : Int) == 95)) = letterB (n.val : Int) := by decide +kernel
  obtain ⟨n, rfl⟩ := Int.eq_ofNat_of_zero_le h0
  have hk := key ⟨n, by omega⟩
  simp only at hk
  rw [← hk]
  clear hk key
  by_cases c2 : (97 : Int) ≤ (Go.bits .or .u8 (n : Int) 32)
  · by_cases c3 : (Go.bits .or .u8 (n : Int) 32) ≤ 122
    · go_enter Tryz.func60, Tryz.ntmps60
      go_wp2
      go_ret
      exact ⟨by simp [*], by repeat (first | exact Drawn0.refl _ | apply Drawn0.step)⟩
    · have c3b := decide_eq_false c3
      clear c3
      go_enter Tryz.func60, Tryz.ntmps60
      go_wp2
      go_ret
      exact ⟨by simp [*], by repeat (first | exact Drawn0.refl _ | apply Drawn0.step)⟩
  · have c3b := decide_eq_false c2
    clear c2
    go_enter Tryz.func60, Tryz.ntmps60
    go_wp2
    go_ret
    exact ⟨by simp [*], by repeat (first | exact Drawn0.refl _ | apply Drawn0.step)⟩

theorem digit_calls (c : Int) (w : World) :
    Calls Tryz.prog 63 #[.int .u8 c] w fun e w' => e = .returned (.bool (digitB c)) ∧ Drawn0 w w' := by
  unfold digitB
  by_cases h1 : 48 ≤ c
  · by_cases h2 : c ≤ 57
    · have e : decide (48 ≤ c ∧ c ≤ 57) = true := by simp [h1, h2]
      rw [e]
      go_enter Tryz.func63, Tryz.ntmps63
      go_wp2
      go_ret
      exact ⟨rfl, by repeat (first | exact Drawn0.refl _ | apply Drawn0.step)⟩
    · have e : decide (48 ≤ c ∧ c ≤ 57) = false := by simp [h2]
      rw [e]
      go_enter Tryz.func63, Tryz.ntmps63
      go_wp2
      go_ret
      exact ⟨by simp, by repeat (first | exact Drawn0.refl _ | apply Drawn0.step)⟩
  · have e : decide (48 ≤ c ∧ c ≤ 57) = false := by simp [h1]
    rw [e]
    go_enter Tryz.func63, Tryz.ntmps63
    go_wp2
    go_ret
    exact ⟨by simp, by repeat (first | exact Drawn0.refl _ | apply Drawn0.step)⟩

theorem identC_calls (c : Int) (h0 : 0 ≤ c) (h1 : c ≤ 255) (w : World) :
    Calls Tryz.prog 62 #[.int .u8 c] w fun e w' => e = .returned (.bool (identB c)) ∧ Drawn0 w w' := by
  unfold identB
  generalize hl : letterB c = bl
  generalize hd : digitB c = bd
  have Hl := Lib.hid (letter_calls c h0 h1); rw [hl] at Hl; clear hl
  have Hd := Lib.hid (digit_calls c); rw [hd] at Hd; clear hd
  cases bl <;> cases bd
  all_goals
    go_enter Tryz.func62, Tryz.ntmps62
    go_wp2_with (first | (go_at_call 60; refine (Hl.out _).mono ?_; rintro e w' ⟨rfl, ⟨nd, rfl⟩⟩) | (go_at_call 63; refine (Hd.out _).mono ?_; rintro e w' ⟨rfl, ⟨nd, rfl⟩⟩))
    go_ret
    exact ⟨by first | rfl | (simp; done) | (simp [*]; done), by repeat (first | exact Drawn0.refl _ | apply Drawn0.step)⟩

theorem indexByte_ge (l : List UInt8) (c : UInt8) : decide ((0 : Int) ≤ Lib.indexByte l c) = l.contains c := by
  induction l with
  | nil => simp [Lib.indexByte]
  | cons b l ih =>
    have hr : ∀ l : List UInt8, -1 ≤ Lib.indexByte l c := by
      intro l
      induction l with
      | nil => simp [Lib.indexByte]
      | cons b l ih => unfold Lib.indexByte; split; · omega
                       · split
                         · omega
                         · rename_i h; simp at h; omega
    unfold Lib.indexByte
    by_cases hb : b = c
    · subst hb; simp
    · have hb' : (b == c) = false := by simpa using hb
      have hcb : (c == b) = false := by simpa using fun e => hb e.symm
      rw [hb', List.contains_cons, hcb, Bool.false_or, ← ih]
      have := hr l
      by_cases h : Lib.indexByte l c = -1
      · simp [h]
      · simp [h]
        constructor
        · intro; omega
        · intro; omega

theorem runC_calls (c : Int) (w : World) :
    Calls Tryz.prog 64 #[.int .u8 c] w fun e w' => e = .returned (.bool (signB c)) ∧ Drawn0 w w' := by
  have hr := indexByte_ge signs c.toNat.toUInt8
  unfold signB
  rw [← hr]
  clear hr
  go_enter Tryz.func64, Tryz.ntmps64
  go_wp2_with (go_at_call 65; refine (Tryz.strings_IndexByte _ _ _).mono ?_; rintro e w' ⟨rfl, rfl⟩)
  go_ret
  exact ⟨rfl, Drawn0.refl _⟩

theorem isPoint_calls (c : Int) (w : World) :
    Calls Tryz.prog 45 #[.int .u8 c] w fun e w' => e = .returned (.bool (pointB c)) ∧ Drawn0 w w' := by
  have hr := indexByte_ge points c.toNat.toUInt8
  unfold pointB
  rw [← hr]
  clear hr
  go_enter Tryz.func45, Tryz.ntmps45
  go_wp2_with (go_at_call 65; refine (Tryz.strings_IndexByte _ _ _).mono ?_; rintro e w' ⟨rfl, rfl⟩)
  go_ret
  exact ⟨rfl, Drawn0.refl _⟩

theorem blanksC_calls (c : Int) (w : World) :
    Calls Tryz.prog 66 #[.int .u8 c] w fun e w' => e = .returned (.bool (blankB c)) ∧ Drawn0 w w' := by
  have e : blankB c = (decide (c = 32) || decide (c = 9) || decide (c = 10) || decide (c = 13)) := by
    unfold blankB; rw [Bool.eq_iff_iff]; simp [or_assoc]
  rw [e]
  by_cases h1 : c = 32
  · subst h1
    go_enter Tryz.func66, Tryz.ntmps66
    go_wp2
    go_ret
    exact ⟨rfl, Drawn0.refl _⟩
  · have g1 : (c == 32) = false := by simpa using h1
    by_cases h2 : c = 9
    · subst h2
      clear h1
      go_enter Tryz.func66, Tryz.ntmps66
      go_wp2
      go_ret
      exact ⟨rfl, Drawn0.refl _⟩
    · have g2 : (c == 9) = false := by simpa using h2
      by_cases h3 : c = 10
      · subst h3
        clear h1 h2
        go_enter Tryz.func66, Tryz.ntmps66
        go_wp2
        go_ret
        exact ⟨rfl, Drawn0.refl _⟩
      · have g3 : (c == 10) = false := by simpa using h3
        clear h1 h2 h3
        go_enter Tryz.func66, Tryz.ntmps66
        go_wp2
        go_ret
        refine ⟨?_, Drawn0.refl _⟩
        simp only [beq_eq_false_iff_ne] at g1 g2 g3
        simp [g1, g2, g3]
        rfl

/-- a function value that tells of each byte whether it is of a kind -/
def PredB (g : FuncId) (p : Int → Bool) : Prop := ∀ (c : Int) (w : World), 0 ≤ c → c ≤ 255 → Calls Tryz.prog g #[.int .u8 c] w fun e w' => e = .returned (.bool (p c)) ∧ Drawn0 w w'

set_option maxHeartbeats 400000 in
theorem while_calls (s : ByteArray) (hs : s.size ≤ 9223372036854775807) (i : Int) (h0 : 0 ≤ i) (p : Int → Bool) (g : FuncId) (eg : Enters Tryz.prog g) (hp : PredB g p) (w : World) :
    Calls Tryz.prog 61 #[.string s, .int .i64 i, .func (.func g) #[] #[]] w fun e w' => e = .returned (.int .i64 (whileE p s i.toNat)) ∧ Drawn0 w w' := by
  obtain ⟨i, rfl⟩ := Int.eq_ofNat_of_zero_le h0
  rw [Int.toNat_natCast]
  have Hp := Lib.hid hp
  clear hp
  unfold Enters at eg
  go_enter Tryz.func61, Tryz.ntmps61
  go_wp2
  go_loopw [1] (fun v wr => ∃ k : Nat, v = .int .i64 k ∧ Hid (whileE p s i = whileE p s k) ∧ Drawn0 w wr) (fun v _ => s.size - (intOf v).toNat)
  case atStart => exact ⟨i, rfl, rfl, Drawn0.refl _⟩
  case round =>
    obtain ⟨k, rfl, hw, hd⟩ := hrel
    have Hd := Lib.hid hd; clear hd
    by_cases hlt : k < s.size
    · have hltz : (k : Int) < (s.size : Int) := by omega
      have hb := bt_range s k
      have hbt : bt s k = ((s[k]'hlt).toNat : Int) := by unfold bt; simp [hlt]
      generalize hq : p (bt s k) = q
      have HC := Lib.hid (fun w => Hp.out (bt s k) w hb.1 hb.2)
      clear hb
      have Hbt := Lib.hid hbt
      clear hbt
      rw [hq, Hbt.out] at HC
      have Hq := Lib.hid hq; clear hq
      cases q with
      | true =>
        go_wp2_with (go_at_fn g; refine (HC.out _).mono ?_; rintro e w' ⟨rfl, ⟨nd, rfl⟩⟩)
        go_roundw
        case rel => exact ⟨k + 1, by go_num, Lib.hid (hw.out.trans (whileE_hit p s k hlt Hq.out)), Hd.out.step _⟩
        case measure => simp [intOf]; omega
      | false =>
        go_wp2_with (go_at_fn g; refine (HC.out _).mono ?_; rintro e w' ⟨rfl, ⟨nd, rfl⟩⟩)
        go_ret
        exact ⟨by rw [hw.out, whileE_miss p s k hlt Hq.out]; rfl, Hd.out.step _⟩
    · have hltz : ¬ (k : Int) < (s.size : Int) := by omega
      go_wp2
      go_ret
      exact ⟨by rw [hw.out, whileE_end p s k (by omega)]; rfl, Hd.out⟩

theorem enters_ident1 : Enters Tryz.prog 62 := enters_of Tryz.func62 (by kernel_rfl) rfl
theorem enters_run1 : Enters Tryz.prog 64 := enters_of Tryz.func64 (by kernel_rfl) rfl
theorem enters_digit : Enters Tryz.prog 63 := enters_of Tryz.func63 (by kernel_rfl) rfl
theorem enters_blanks1 : Enters Tryz.prog 66 := enters_of Tryz.func66 (by kernel_rfl) rfl

theorem ident_calls (s : ByteArray) (hs : s.size ≤ 9223372036854775807) (i : Int) (h0 : 0 ≤ i) (w : World) :
    Calls Tryz.prog 42 #[.string s, .int .i64 i] w fun e w' => e = .returned (.int .i64 (identE s i.toNat)) ∧ Drawn0 w w' := by
  obtain ⟨i, rfl⟩ := Int.eq_ofNat_of_zero_le h0
  rw [Int.toNat_natCast]
  unfold identE
  by_cases hlt : i < s.size
  · rw [if_pos hlt]
    have hltz : (i : Int) < (s.size : Int) := by omega
    have hb := bt_range s i
    have hbt : bt s i = ((s[i]'hlt).toNat : Int) := by unfold bt; simp [hlt]
    have HC := Lib.hid (letter_calls (bt s i) hb.1 hb.2)
    clear hb
    have Hbt := Lib.hid hbt
    clear hbt
    generalize hq : letterB (bt s i) = q at HC ⊢
    rw [Hbt.out] at HC
    have Hq := Lib.hid hq; clear hq
    cases q with
    | true =>
      rw [if_pos rfl]
      have HW := Lib.hid (while_calls s hs i (by omega) identB _ enters_ident1 (fun c w a b => identC_calls c a b w))
      rw [Int.toNat_natCast] at HW
      go_enter Tryz.func42, Tryz.ntmps42
      go_wp2_with (first | (go_at_call 60; refine (HC.out _).mono ?_; rintro e w' ⟨rfl, ⟨nd, rfl⟩⟩) | (go_at_call 61; refine (HW.out _).mono ?_; rintro e w' ⟨rfl, ⟨nd, rfl⟩⟩))
      go_ret
      exact ⟨rfl, by repeat (first | exact Drawn0.refl _ | apply Drawn0.step)⟩
    | false =>
      rw [if_neg (by decide)]
      go_enter Tryz.func42, Tryz.ntmps42
      go_wp2_with (go_at_call 60; refine (HC.out _).mono ?_; rintro e w' ⟨rfl, ⟨nd, rfl⟩⟩)
      go_ret
      exact ⟨rfl, by repeat (first | exact Drawn0.refl _ | apply Drawn0.step)⟩
  · rw [if_neg hlt]
    have hltz : (s.size : Int) ≤ (i : Int) := by omega
    go_enter Tryz.func42, Tryz.ntmps42
    go_wp2
    go_ret
    exact ⟨rfl, Drawn0.refl _⟩

theorem run_calls (s : ByteArray) (hs : s.size ≤ 9223372036854775807) (i : Int) (h0 : 0 ≤ i) (w : World) :
    Calls Tryz.prog 43 #[.string s, .int .i64 i] w fun e w' => e = .returned (.int .i64 (runE s i.toNat)) ∧ Drawn0 w w' := by
  have HW := Lib.hid (while_calls s hs i h0 signB _ enters_run1 (fun c w _ _ => runC_calls c w))
  go_enter Tryz.func43, Tryz.ntmps43
  go_wp2_with (go_at_call 61; refine (HW.out _).mono ?_; rintro e w' ⟨rfl, ⟨nd, rfl⟩⟩)
  go_ret
  exact ⟨rfl, by repeat (first | exact Drawn0.refl _ | apply Drawn0.step)⟩
end Go.Proofs.YtmkfeanggmjhmaaGreat.S
namespace Go.Proofs.YtmkfeanggmjhmaaGreat.S
open Go Go.RowKit Go.Proofs.YtmkfeanggmjhmaaGreatW.PrintWords Go.Proofs.YtmkfeanggmjhmaaGreatW.PrintLast Go.Proofs.YtmkfeanggmjhmaaGreatW.PrintMore
open Go.Proofs.YtmkfeanggmjhmaaGreat.M Go.Proofs.YtmkfeanggmjhmaaGreat.K
set_option linter.unusedSimpArgs false
set_option linter.unusedVariables false

theorem prefix_calls (s : ByteArray) (i : Nat) (p : ByteArray) (w : World) :
    Calls Tryz.prog 10 #[.string (s.extract i s.size), .string p] w fun e w' => e = .returned (.bool (preAt s i p.data.toList)) ∧ w' = w := by
  have h := Tryz.strings_HasPrefix (s.extract i s.size) p w
  rw [Lib.extract_to_end] at h
  exact h

theorem named_calls (s : ByteArray) (hs : s.size ≤ 4611686018427387904) (i : Int) (h0 : 0 ≤ i) (hi : i ≤ s.size) (w : World) :
    Calls Tryz.prog 44 #[.string s, .int .i64 i] w fun e w' => e = .returned (.int .i64 (namedE s i.toNat)) ∧ Drawn0 w w' := by
  obtain ⟨i, rfl⟩ := Int.eq_ofNat_of_zero_le h0
  rw [Int.toNat_natCast]
  have hin : i ≤ s.size := by omega
  have HP := Lib.hid (fun w => prefix_calls s i ⟨#[92, 60]⟩ w)
  have HI := Lib.hid (fun w => ident_calls s (by omega) ((i : Int) + 2) (by omega) w)
  rw [show ((i : Int) + 2).toNat = i + 2 by omega] at HI
  have hge := identE_ge s (i + 2)
  have hle := identE_le s (i + 2)
  unfold namedE
  have HPP : Hid (preAt s i [92, 60] = true → i + 2 ≤ s.size) := fun h => preAt_le h hin
  change Hid (∀ w, Calls _ _ _ _ fun e w' => e = .returned (.bool (preAt s i [92, 60])) ∧ _) at HP
  generalize preAt s i [92, 60] = p at HP HPP ⊢
  cases p with
  | false =>
    rw [if_neg (by decide)]
    go_enter Tryz.func44, Tryz.ntmps44
    go_wp2_with (go_at_call 10; refine (HP.out _).mono ?_; rintro e w' ⟨rfl, rfl⟩)
    go_ret
    exact ⟨rfl, Drawn0.refl _⟩
  | true =>
    rw [if_pos rfl]
    have h2 := HPP.out rfl
    have hle := hle h2
    generalize identE s (i + 2) = m at HI hge hle ⊢
    by_cases e1 : m = i + 2
    · subst e1
      rw [if_pos (.inl rfl)]
      go_enter Tryz.func44, Tryz.ntmps44
      go_wp2_with (first | (go_at_call 10; refine (HP.out _).mono ?_; rintro e w' ⟨rfl, rfl⟩) | (go_at_call 42; refine (HI.out _).mono ?_; rintro e w' ⟨rfl, ⟨nd, rfl⟩⟩))
      go_ret
      exact ⟨rfl, by repeat (first | exact Drawn0.refl _ | apply Drawn0.step)⟩
    · have g1 : ((m : Int) == (i : Int) + 2) = false := by simp; omega
      by_cases e2 : m = s.size
      · rw [if_pos (.inr (.inl e2))]
        have g2 : ((m : Int) == (s.size : Int)) = true := by simp; omega
        clear e2
        go_enter Tryz.func44, Tryz.ntmps44
        go_wp2_with (first | (go_at_call 10; refine (HP.out _).mono ?_; rintro e w' ⟨rfl, rfl⟩) | (go_at_call 42; refine (HI.out _).mono ?_; rintro e w' ⟨rfl, ⟨nd, rfl⟩⟩))
        go_ret
        exact ⟨rfl, by repeat (first | exact Drawn0.refl _ | apply Drawn0.step)⟩
      · have g2 : ((m : Int) == (s.size : Int)) = false := by simp; omega
        have hlt : m < s.size := by omega
        have hbt : bt s m = ((s[m]'hlt).toNat : Int) := by unfold bt; simp [hlt]
        have hltz : (m : Int) < (s.size : Int) := by omega
        rw [hbt]
        by_cases e3 : ((s[m]'hlt).toNat : Int) = 62
        · rw [if_neg (by omega)]
          have g3 : (((s[m]'hlt).toNat : Int) != 62) = false := by simp [e3]
          clear hbt e3 e1 e2
          go_enter Tryz.func44, Tryz.ntmps44
          go_wp2_with (first | (go_at_call 10; refine (HP.out _).mono ?_; rintro e w' ⟨rfl, rfl⟩) | (go_at_call 42; refine (HI.out _).mono ?_; rintro e w' ⟨rfl, ⟨nd, rfl⟩⟩))
          go_ret
          exact ⟨rfl, by repeat (first | exact Drawn0.refl _ | apply Drawn0.step)⟩
        · rw [if_pos (.inr (.inr e3))]
          have g3 : (((s[m]'hlt).toNat : Int) != 62) = true := by simpa using e3
          clear hbt e3 e1 e2
          go_enter Tryz.func44, Tryz.ntmps44
          go_wp2_with (first | (go_at_call 10; refine (HP.out _).mono ?_; rintro e w' ⟨rfl, rfl⟩) | (go_at_call 42; refine (HI.out _).mono ?_; rintro e w' ⟨rfl, ⟨nd, rfl⟩⟩))
          go_ret
          exact ⟨rfl, by repeat (first | exact Drawn0.refl _ | apply Drawn0.step)⟩

/-- the scanner: its text, and the map of its keywords -/
structure Scn (w : World) (bx : Nat) (s : ByteArray) (kw : Option Nat) : Prop where
  kw : w.cell? ⟨bx, 0, none⟩ = some (.map kw)
  s : w.cell? ⟨bx, 1, none⟩ = some (.string s)
theorem Scn.chg {T : Nat → Prop} {w w' : World} {bx : Nat} {s : ByteArray} {kw : Option Nat} (h : Scn w bx s kw) (hc : Chg T w w') (hn : ¬ T bx) : Scn w' bx s kw := ⟨hc.cell h.kw hn, hc.cell h.s hn⟩
theorem Scn.drewN {w : World} {bx : Nat} {s : ByteArray} {kw : Option Nat} (h : Scn w bx s kw) (n : Nat) : Scn (w.drewN n) bx s kw := ⟨h.kw, h.s⟩
theorem Scn.below {n : Nat} {w w' : World} {bx : Nat} {s : ByteArray} {kw : Option Nat} (h : Scn w bx s kw) (hb : Below n w w') (hn : bx < n) : Scn w' bx s kw := ⟨(hb.cell (p := ⟨bx, 0, none⟩) hn).trans h.kw, (hb.cell (p := ⟨bx, 1, none⟩) hn).trans h.s⟩

/-- what the closure of 'nested' has captured -/
structure Nst (w : World) (v0 v1 v2 v3 v4 bx : Nat) (s : ByteArray) (i : Nat) (b e : ByteArray) (deep : Int) : Prop where
  x : w.cell? ⟨v0, 0, none⟩ = some (.pointer (some ⟨bx, 0, none⟩))
  s : w.cell? ⟨bx, 1, none⟩ = some (.string s)
  at_ : w.cell? ⟨v1, 0, none⟩ = some (.int .i64 i)
  b : w.cell? ⟨v2, 0, none⟩ = some (.string b)
  deep : w.cell? ⟨v3, 0, none⟩ = some (.int .i64 deep)
  e : w.cell? ⟨v4, 0, none⟩ = some (.string e)
  fz : w.frozen? ⟨v3, 0, none⟩ = false
  ne2 : v2 ≠ v3
  ne4 : v4 ≠ v3

set_option maxHeartbeats 1000000 in
theorem step_calls (v0 v1 v2 v3 v4 bx : Nat) (s : ByteArray) (i : Nat) (b e : ByteArray) (deep : Int) (w : World) (h : Nst w v0 v1 v2 v3 v4 bx s i b e deep)
    (hi : i ≤ s.size) (hs : s.size ≤ 4611686018427387904) (hd0 : -4611686018427387904 ≤ deep) (hd1 : deep ≤ 4611686018427387904) :
    Calls Tryz.prog 78 #[.pointer (some ⟨v0, 0, none⟩), .pointer (some ⟨v1, 0, none⟩), .pointer (some ⟨v2, 0, none⟩), .pointer (some ⟨v3, 0, none⟩), .pointer (some ⟨v4, 0, none⟩)] w fun r w' =>
      r = .returned (.int .i64 (stepW s b.data.toList e.data.toList i)) ∧ ∃ nd, w' = (w.drewN nd).setCell ⟨v3, 0, none⟩ (.int .i64 (deep + stepD s b.data.toList e.data.toList i)) := by
  obtain ⟨h1, h2, h3, h4, h5, h6, h7, h8, h9⟩ := h
  unfold stepW stepD
  have HB := Lib.hid (fun w => prefix_calls s i b w)
  have HE := Lib.hid (fun w => prefix_calls s i e w)
  generalize preAt s i b.data.toList = pb at HB ⊢
  generalize preAt s i e.data.toList = pe at HE ⊢
  have hiz : (i : Int) ≤ (s.size : Int) := by omega
  cases pb with
  | true =>
    simp only [if_true]
    go_enter Tryz.func78, Tryz.ntmps78
    go_wp2
    go_quiet (fail)
    go_wp2_with (go_at_call 10; refine (HB.out _).mono ?_; rintro e w' ⟨rfl, rfl⟩)
    go_ret
    exact ⟨rfl, _, rfl⟩
  | false =>
    simp only [Bool.false_eq_true, if_false]
    cases pe with
    | true =>
      simp only [if_true]
      go_enter Tryz.func78, Tryz.ntmps78
      go_wp2
      go_quiet (fail)
      go_wp2_with fail
      refine (HB.out _).mono ?_
      rintro e w' ⟨rfl, rfl⟩
      go_wp2_with fail
      refine (HE.out _).mono ?_
      rintro e w' ⟨rfl, rfl⟩
      go_wp2
      go_ret
      exact ⟨rfl, _, rfl⟩
    | false =>
      simp only [Bool.false_eq_true, if_false]
      go_enter Tryz.func78, Tryz.ntmps78
      go_wp2
      go_quiet (fail)
      go_wp2_with fail
      refine (HB.out _).mono ?_
      rintro e w' ⟨rfl, rfl⟩
      go_wp2_with fail
      refine (HE.out _).mono ?_
      rintro e w' ⟨rfl, rfl⟩
      go_wp2
      go_ret
      exact ⟨rfl, _, by rw [Int.add_zero]; exact (setCell_self (w := w.drewN _) h5).symm⟩

theorem Nst.setAt {w : World} {v0 v1 v2 v3 v4 bx : Nat} {s : ByteArray} {i : Nat} {b e : ByteArray} {deep : Int} (h : Nst w v0 v1 v2 v3 v4 bx s i b e deep) (n0 : v0 ≠ v1) (n1 : bx ≠ v1) (n2 : v2 ≠ v1) (n3 : v3 ≠ v1) (n4 : v4 ≠ v1) (j : Nat) :
    Nst (w.setCell ⟨v1, 0, none⟩ (.int .i64 j)) v0 v1 v2 v3 v4 bx s j b e deep := by
  have hc : Chg (fun k => k = v1) w (w.setCell ⟨v1, 0, none⟩ (.int .i64 j)) := Chg.setCell (T := fun k => k = v1) (p := ⟨v1, 0, none⟩) rfl _
  refine ⟨hc.cell h.x n0, hc.cell h.s n1, ?_, hc.cell h.b n2, hc.cell h.deep n3, hc.cell h.e n4, ?_, h.ne2, h.ne4⟩
  · exact World.cell?_setCell_same' _ _ _ (by rw [h.at_]; rfl)
  · rw [World.frozen?_setCell]; exact h.fz
theorem Nst.setDeep {w : World} {v0 v1 v2 v3 v4 bx : Nat} {s : ByteArray} {i : Nat} {b e : ByteArray} {deep : Int} (h : Nst w v0 v1 v2 v3 v4 bx s i b e deep) (n0 : v0 ≠ v3) (n1 : bx ≠ v3) (n2 : v1 ≠ v3) (d : Int) :
    Nst (w.setCell ⟨v3, 0, none⟩ (.int .i64 d)) v0 v1 v2 v3 v4 bx s i b e d := by
  have hc : Chg (fun k => k = v3) w (w.setCell ⟨v3, 0, none⟩ (.int .i64 d)) := Chg.setCell (T := fun k => k = v3) (p := ⟨v3, 0, none⟩) rfl _
  refine ⟨hc.cell h.x n0, hc.cell h.s n1, hc.cell h.at_ n2, hc.cell h.b h.ne2, ?_, hc.cell h.e h.ne4, ?_, h.ne2, h.ne4⟩
  · exact World.cell?_setCell_same' _ _ _ (by rw [h.deep]; rfl)
  · rw [World.frozen?_setCell]; exact h.fz
theorem Nst.drewN {w : World} {v0 v1 v2 v3 v4 bx : Nat} {s : ByteArray} {i : Nat} {b e : ByteArray} {deep : Int} (h : Nst w v0 v1 v2 v3 v4 bx s i b e deep) (n : Nat) : Nst (w.drewN n) v0 v1 v2 v3 v4 bx s i b e deep :=
  ⟨h.x, h.s, h.at_, h.b, h.deep, h.e, h.fz, h.ne2, h.ne4⟩
theorem Nst.drew {w : World} {v0 v1 v2 v3 v4 bx : Nat} {s : ByteArray} {i : Nat} {b e : ByteArray} {deep : Int} (h : Nst w v0 v1 v2 v3 v4 bx s i b e deep) : Nst w.drew v0 v1 v2 v3 v4 bx s i b e deep :=
  ⟨h.x, h.s, h.at_, h.b, h.deep, h.e, h.fz, h.ne2, h.ne4⟩

def nestR : Option Nat → Value
  | some r => .int .i64 r
  | none => .int .i64 (-1)

theorem enters_step : Enters Tryz.prog 78 := enters_of Tryz.func78 (by kernel_rfl) rfl

set_option maxHeartbeats 2000000 in
theorem nested_calls (bx : Nat) (s : ByteArray) (i : Int) (h0 : 0 ≤ i) (hi : i ≤ s.size) (b e : ByteArray) (hb : 0 < b.data.toList.length) (he : 0 < e.data.toList.length) (w : World)
    (hx : w.cell? ⟨bx, 1, none⟩ = some (.string s)) (hs : s.size ≤ 1000000000000) :
    Calls Tryz.prog 67 #[.pointer (some ⟨bx, 0, none⟩), .int .i64 i, .string b, .string e] w fun r w' =>
      r = .returned (nestR (nestE s b.data.toList e.data.toList i.toNat 0)) ∧ Below w.heap.size w w' := by
  obtain ⟨i, rfl⟩ := Int.eq_ofNat_of_zero_le h0
  rw [Int.toNat_natCast]
  have hbx : bx < w.heap.size := lt_of_cell hx
  have eg := enters_step
  unfold Enters at eg
  go_enter Tryz.func67, Tryz.ntmps67
  go_wp2
  go_loopg [] (s.size - i + 1) (fun gg wr => ∃ (k : Nat) (deep : Int), Nst wr w.heap.size (w.heap.size + 1) (w.heap.size + 1 + 1) (w.heap.size + 1 + 1 + 1 + 1) (w.heap.size + 1 + 1 + 1) bx s k b e deep ∧ wr.frozen? ⟨w.heap.size + 1, 0, none⟩ = false ∧ k ≤ s.size ∧ i ≤ k ∧ -(k : Int) ≤ deep ∧ deep ≤ k ∧ s.size - k + 1 ≤ gg ∧
    Hid (nestE s b.data.toList e.data.toList i 0 = nestE s b.data.toList e.data.toList k deep) ∧ Below w.heap.size w wr)
  case atStart =>
    refine ⟨i, 0, ⟨?_, ?_, ?_, ?_, ?_, ?_, ?_, by omega, by omega⟩, ?_, by omega, Nat.le_refl _, by omega, by omega, Nat.le_refl _, rfl, ?_⟩
    all_goals first
      | ((repeat (rw [cell_old _ _ _ _ (by (try simp only [World.size_alloc]); omega)])); first | assumption | exact cell_at _ _ _ _ (by first | rfl | simp only [World.size_alloc]))
      | ((repeat (rw [frozen_old _ _ _ _ (by (try simp only [World.size_alloc]); omega)])); exact frozen_at _ _ _ _ _ (by first | rfl | simp only [World.size_alloc]))
      | exact ((((((Below.refl _ w).alloc (Nat.le_refl _) _).alloc (by simp only [World.size_alloc]; omega) _).alloc (by simp only [World.size_alloc]; omega) _).alloc (by simp only [World.size_alloc]; omega) _).alloc (by simp only [World.size_alloc]; omega) _)
  case round =>
    obtain ⟨k, deep, hn, hf, hk, hik, hd0, hd1, hg, hw, hbl⟩ := hrel
    have Hn := Lib.hid hn
    obtain ⟨h1, h2, h3, h4, h5, h6, h7, h8, h9⟩ := hn
    clear h8 h9
    by_cases hlt : k < s.size
    · have hltz : (k : Int) < (s.size : Int) := by omega
      have hsw := stepW_le s b.data.toList e.data.toList k hlt
      have hsp := stepW_pos s b.data.toList e.data.toList k hb he
      have hsd := stepD_range s b.data.toList e.data.toList k
      have HS : Hid (∀ W, Nst W w.heap.size (w.heap.size + 1) (w.heap.size + 1 + 1) (w.heap.size + 1 + 1 + 1 + 1) (w.heap.size + 1 + 1 + 1) bx s k b e deep → _) := fun W h => step_calls _ _ _ _ _ bx s k b e deep W h hk (by omega) (by omega) (by omega)
      have Hstop := Lib.hid (nestE_stop s b.data.toList e.data.toList k deep hlt)
      have Hstep := Lib.hid (nestE_step s b.data.toList e.data.toList hb he k deep hlt)
      generalize stepW s b.data.toList e.data.toList k = sw at HS hsw hsp Hstop Hstep
      generalize stepD s b.data.toList e.data.toList k = sd at HS hsd Hstop Hstep
      have hwrap : IntKind.i64.wrap ((k : Int) + (sw : Int)) = ((k + sw : Nat) : Int) := by rw [IntWalk.i64_in _ (by omega)]; omega
      have Hwrap := Lib.hid hwrap
      clear hwrap
      go_wp2
      go_quiet (fail)
      go_wp2
      go_region_with (go_at_call 78; refine (HS.out _ ?_).mono ?_; exact (Hn.out.drewN _).drew; rintro r w' ⟨rfl, nd, rfl⟩)
      all_goals
        generalize hW : World.setCell _ _ _ = W
        rw [Hwrap.out] at hW ⊢
        have HnW : Nst W w.heap.size (w.heap.size + 1) (w.heap.size + 1 + 1) (w.heap.size + 1 + 1 + 1 + 1) (w.heap.size + 1 + 1 + 1) bx s (k + sw) b e (deep + sd) := by
          rw [← hW]; exact ((Hn.out.drewN _).setDeep (by omega) (by omega) (by omega) _).setAt (by omega) (by omega) (by omega) (by omega) (by omega) _
        have hfW : W.frozen? ⟨w.heap.size + 1, 0, none⟩ = false := by
          rw [← hW, World.frozen?_setCell, World.frozen?_setCell]; exact hf
        have hbW : Below w.heap.size w W := by
          rw [← hW]; exact (((below_drewN hbl _).setCell (p := ⟨w.heap.size + 1 + 1 + 1 + 1, 0, none⟩) (by simp; omega) _).setCell (p := ⟨w.heap.size + 1, 0, none⟩) (by simp) _)
        have HN := Lib.hid HnW
        clear hW
        obtain ⟨g1, g2, g3, g4, g5, g6, g7, _, _⟩ := HnW
        by_cases hz : deep + sd = 0
        · have gz : (deep + sd == 0) = true := by simpa using hz
          have Hz := Lib.hid hz
          clear hz
          go_wp2
          go_ret
          exact ⟨by rw [hw.out, Hstop.out Hz.out]; rfl, hbW⟩
        · have gz : (deep + sd == 0) = false := by simpa using hz
          have Hz := Lib.hid hz
          clear hz
          go_wp2
          go_roundg (s.size - (k + sw) + 1)
          case measure => omega
          case rel => exact ⟨k + sw, deep + sd, HN.out, hfW, by omega, by omega, by omega, by omega, Nat.le_refl _, Lib.hid (hw.out.trans (Hstep.out Hz.out)), hbW⟩
    · have hltz : ¬ (k : Int) < (s.size : Int) := by omega
      go_wp2
      go_quiet (fail)
      go_wp2
      go_ret
      exact ⟨by rw [hw.out, nestE_end _ _ _ _ _ (by omega)]; rfl, ⟨hbl.os, hbl.tape, hbl.output, hbl.size, hbl.block⟩⟩
end Go.Proofs.YtmkfeanggmjhmaaGreat.S

/- Walks of the scanner: blanks and comments, names, variables, numbers, symbols. -/
namespace Go.Proofs.YtmkfeanggmjhmaaGreat.S
open Go Go.RowKit Go.Proofs.YtmkfeanggmjhmaaGreatW.PrintWords Go.Proofs.YtmkfeanggmjhmaaGreatW.PrintLast Go.Proofs.YtmkfeanggmjhmaaGreatW.PrintMore
open Go.Proofs.YtmkfeanggmjhmaaGreat.M Go.Proofs.YtmkfeanggmjhmaaGreat.K
set_option linter.unusedSimpArgs false
set_option linter.unusedVariables false

/-- what a stop is made of -/
def stopV (p : Nat) (c : Int) : Value := .iface 63 (.agg #[.int .i64 p, .int .i64 c])
def stopE (p : Nat) (c : Int) : Ending := .panicked [{ v := stopV p c, recovered := false }]
theorem run_panic_iface (w : World) (t : TypeId) (v : Value) : (Instr.panic (.iface t v)).run Tryz.prog w = .halt (.panic (.iface t v)) w := rfl
def blanksR : Except Nat Nat → Ending
  | .ok r => .returned (.int .i64 r)
  | .error p => stopE p 162

set_option maxHeartbeats 2000000 in
theorem blanks_calls (bx : Nat) (s : ByteArray) (i : Int) (h0 : 0 ≤ i) (hi : i ≤ s.size) (w : World)
    (hx : w.cell? ⟨bx, 1, none⟩ = some (.string s)) (hs : s.size ≤ 1000000000000) :
    Calls Tryz.prog 47 #[.pointer (some ⟨bx, 0, none⟩), .int .i64 i] w fun r w' =>
      r = blanksR (blanksE s i.toNat) ∧ Below w.heap.size w w' := by
  obtain ⟨i, rfl⟩ := Int.eq_ofNat_of_zero_le h0
  rw [Int.toNat_natCast]
  have hbx : bx < w.heap.size := lt_of_cell hx
  go_enter Tryz.func47, Tryz.ntmps47
  go_wp2
  go_loopg [1] (s.size - i + 1) (fun gg v wr => ∃ k : Nat, v = .int .i64 k ∧ k ≤ s.size ∧ s.size - k + 1 ≤ gg ∧ Hid (blanksE s i = blanksE s k) ∧ Below w.heap.size w wr)
  case atStart => exact ⟨i, rfl, by omega, Nat.le_refl _, rfl, Below.refl _ _⟩
  case round =>
    obtain ⟨k, rfl, hk, hg, hw, hbl⟩ := hrel
    have hx' : wr.cell? ⟨bx, 1, none⟩ = some (.string s) := (hbl.cell (p := ⟨bx, 1, none⟩) hbx).trans hx
    have HW := Lib.hid (fun w => while_calls s (by omega) k (by omega) blankB _ enters_blanks1 (fun c w _ _ => blanksC_calls c w) w)
    rw [Int.toNat_natCast] at HW
    have hj1 := whileE_ge blankB s k
    have hj2 := whileE_le blankB s k hk
    have Hn := Lib.hid (blanksE_none s k)
    have He := Lib.hid (blanksE_err s k)
    have Hs := Lib.hid (fun h e hn => blanksE_step s k hk h (e := e) hn)
    generalize whileE blankB s k = j at HW hj1 hj2 Hn He Hs
    have HP := Lib.hid (fun w => prefix_calls s j ⟨#[40, 42]⟩ w)
    change Hid (∀ w, Calls _ _ _ _ fun e w' => e = .returned (.bool (preAt s j [40, 42])) ∧ _) at HP
    have HN := Lib.hid (fun w hx => nested_calls bx s j (by omega) (by omega) ⟨#[40, 42]⟩ ⟨#[42, 41]⟩ (by decide) (by decide) w hx hs)
    rw [Int.toNat_natCast] at HN
    change Hid (∀ w, _ → Calls _ _ _ _ fun r w' => r = .returned (nestR (nestE s [40, 42] [42, 41] j 0)) ∧ _) at HN
    have Hlt := Lib.hid (fun e => nestE_lt (s := s) (b := [40, 42]) (e := [42, 41]) (by decide) (by decide) (i := j) (deep := 0) (r := e) (by omega))
    have Hle := Lib.hid (fun e => nestE_le (s := s) (b := [40, 42]) (e := [42, 41]) (i := j) (deep := 0) (r := e) (by omega))
    generalize hp : preAt s j [40, 42] = p at HP Hn He Hs
    generalize hne : nestE s [40, 42] [42, 41] j 0 = ne at HN He Hs Hlt Hle
    clear hp hne
    have hjz : (j : Int) ≤ (s.size : Int) := by omega
    cases p with
    | false =>
      replace Hn := Lib.hid (Hn.out rfl)
      clear He Hs
      go_wp2_with (first | (go_at_call 61; refine (HW.out _).mono ?_; rintro e w' ⟨rfl, ⟨nd, rfl⟩⟩) | (go_at_call 10; refine (HP.out _).mono ?_; rintro e w' ⟨rfl, rfl⟩))
      go_ret
      exact ⟨by rw [hw.out, Hn.out]; rfl, below_drewN hbl _⟩
    | true =>
      cases ne with
      | none =>
        replace He := Lib.hid (He.out rfl rfl)
        clear Hn Hs
        have hpan := run_panic_iface
        go_wp2_with (first | (go_at_call 61; refine (HW.out _).mono ?_; rintro e w' ⟨rfl, ⟨nd, rfl⟩⟩) | (go_at_call 10; refine (HP.out _).mono ?_; rintro e w' ⟨rfl, rfl⟩) | (go_at_call 67; refine (HN.out _ ?_).mono ?_; exact hx'; rintro e w' ⟨rfl, hb'⟩; unfold nestR))
        refine ⟨rfl, ?_, ?_⟩
        · rw [hw.out, He.out]; rfl
        · exact (below_drewN hbl nd).trans (hb'.mono hbl.size)
      | some e =>
        replace Hs := Lib.hid (Hs.out rfl e rfl)
        have h1 := Hlt.out e rfl
        have h2 := Hle.out e rfl
        clear Hn He Hlt Hle
        go_wp2_with (first | (go_at_call 61; refine (HW.out _).mono ?_; rintro e w' ⟨rfl, ⟨nd, rfl⟩⟩) | (go_at_call 10; refine (HP.out _).mono ?_; rintro e w' ⟨rfl, rfl⟩) | (go_at_call 67; refine (HN.out _ ?_).mono ?_; exact hx'; rintro e w' ⟨rfl, hb'⟩; unfold nestR))
        go_roundg (s.size - e + 1)
        case measure => omega
        case rel => exact ⟨e, rfl, by omega, Nat.le_refl _, Lib.hid (hw.out.trans Hs.out), (below_drewN hbl nd).trans (hb'.mono hbl.size)⟩

theorem indexed_calls (bx : Nat) (s : ByteArray) (i : Int) (h0 : 0 ≤ i) (hi : i ≤ s.size) (w : World)
    (hx : w.cell? ⟨bx, 1, none⟩ = some (.string s)) (hs : s.size ≤ 1000000000000) :
    Calls Tryz.prog 82 #[.pointer (some ⟨bx, 0, none⟩), .int .i64 i] w fun r w' =>
      r = .returned (.int .i64 (indexE s i.toNat)) ∧ Drawn0 w w' := by
  obtain ⟨i, rfl⟩ := Int.eq_ofNat_of_zero_le h0
  rw [Int.toNat_natCast]
  unfold indexE
  by_cases hlt : i < s.size
  · rw [if_pos hlt]
    have hltz : (i : Int) < (s.size : Int) := by omega
    have hbt : bt s i = ((s[i]'hlt).toNat : Int) := by unfold bt; simp [hlt]
    rw [hbt]
    by_cases hd : ((s[i]'hlt).toNat : Int) = 46
    · rw [if_pos hd]
      have gd : (((s[i]'hlt).toNat : Int) == 46) = true := by simpa using hd
      have HW := Lib.hid (fun w => while_calls s (by omega) ((i : Int) + 1) (by omega) digitB _ enters_digit (fun c w _ _ => digit_calls c w) w)
      rw [show ((i : Int) + 1).toNat = i + 1 by omega] at HW
      have hj1 := whileE_ge digitB s (i + 1)
      have hj2 := whileE_le digitB s (i + 1) (by omega)
      clear hd hbt
      generalize whileE digitB s (i + 1) = j at HW hj1 hj2 ⊢
      by_cases hj : i + 1 < j
      · rw [if_pos hj]
        have hjz : (i : Int) + 1 < (j : Int) := by omega
        go_enter Tryz.func82, Tryz.ntmps82
        go_wp2_with (go_at_call 61; refine (HW.out _).mono ?_; rintro e w' ⟨rfl, ⟨nd, rfl⟩⟩)
        go_ret
        exact ⟨rfl, by repeat (first | exact Drawn0.refl _ | apply Drawn0.step)⟩
      · rw [if_neg hj]
        have hjz : ¬ (i : Int) + 1 < (j : Int) := by omega
        go_enter Tryz.func82, Tryz.ntmps82
        go_wp2_with (go_at_call 61; refine (HW.out _).mono ?_; rintro e w' ⟨rfl, ⟨nd, rfl⟩⟩)
        go_ret
        exact ⟨rfl, by repeat (first | exact Drawn0.refl _ | apply Drawn0.step)⟩
    · rw [if_neg hd]
      have gd : (((s[i]'hlt).toNat : Int) == 46) = false := by simpa using hd
      clear hd hbt
      go_enter Tryz.func82, Tryz.ntmps82
      go_wp2
      go_ret
      exact ⟨rfl, Drawn0.refl _⟩
  · rw [if_neg hlt]
    have hltz : ¬ (i : Int) < (s.size : Int) := by omega
    go_enter Tryz.func82, Tryz.ntmps82
    go_wp2
    go_ret
    exact ⟨rfl, Drawn0.refl _⟩

theorem numbers_calls (bx : Nat) (s : ByteArray) (i : Int) (h0 : 0 ≤ i) (w : World)
    (hx : w.cell? ⟨bx, 1, none⟩ = some (.string s)) (hs : s.size ≤ 1000000000000) :
    Calls Tryz.prog 71 #[.pointer (some ⟨bx, 0, none⟩), .int .i64 i] w fun r w' =>
      r = .returned (.tuple #[.int .i64 6, .int .i64 (whileE digitB s i.toNat)]) ∧ Drawn0 w w' := by
  have HW := Lib.hid (fun w => while_calls s (by omega) i h0 digitB _ enters_digit (fun c w _ _ => digit_calls c w) w)
  go_enter Tryz.func71, Tryz.ntmps71
  go_wp2_with (go_at_call 61; refine (HW.out _).mono ?_; rintro e w' ⟨rfl, ⟨nd, rfl⟩⟩)
  go_ret2
  exact ⟨rfl, by repeat (first | exact Drawn0.refl _ | apply Drawn0.step)⟩

set_option maxHeartbeats 2000000 in
theorem names_calls (bx : Nat) (s : ByteArray) (i : Int) (h0 : 0 ≤ i) (hi : i ≤ s.size) (w : World)
    (hx : w.cell? ⟨bx, 1, none⟩ = some (.string s)) (hs : s.size ≤ 1000000000000) :
    Calls Tryz.prog 69 #[.pointer (some ⟨bx, 0, none⟩), .int .i64 i] w fun r w' =>
      r = .returned (.tuple #[.int .i64 (namesE s i.toNat).1, .int .i64 (namesE s i.toNat).2]) ∧ Drawn0 w w' := by
  obtain ⟨i, rfl⟩ := Int.eq_ofNat_of_zero_le h0
  rw [Int.toNat_natCast]
  have HI := Lib.hid (fun w => ident_calls s (by omega) i h0 w)
  rw [Int.toNat_natCast] at HI
  have hm1 := identE_ge s i
  have hm2 := identE_le s i (by omega)
  unfold namesE
  generalize identE s i = m at HI hm1 hm2 ⊢
  by_cases him : i < m
  · rw [if_pos him]
    go_enter Tryz.func69, Tryz.ntmps69
    go_wp2_with (go_at_call 42; refine (HI.out _).mono ?_; rintro e w' ⟨rfl, ⟨nd, rfl⟩⟩)
    go_loopg [6, 7] (s.size - m + 1) (fun gg v1 v2 wr => ∃ (k : Int) (e : Nat), v1 = .int .i64 k ∧ v2 = .int .i64 e ∧ m ≤ e ∧ e ≤ s.size ∧ s.size - e + 1 ≤ gg ∧ Hid (wordE s 1 m = wordE s k e) ∧ Drawn0 w wr)
    case atStart => exact ⟨1, m, rfl, rfl, Nat.le_refl _, hm2, Nat.le_refl _, rfl, by repeat (first | exact Drawn0.refl _ | apply Drawn0.step)⟩
    case round =>
      obtain ⟨k, e, rfl, rfl, hme, he, hg, hw, hd⟩ := hrel
      obtain ⟨nd, rfl⟩ := hd
      have hx' : (w.drewN nd).cell? ⟨bx, 1, none⟩ = some (.string s) := hx
      have hie : (i : Int) < (e : Int) := by omega
      by_cases hlt : e < s.size
      · have hltz : (e : Int) < (s.size : Int) := by omega
        have hbt : bt s e = ((s[e]'hlt).toNat : Int) := by unfold bt; simp [hlt]
        have Hdot := Lib.hid (wordE_dot s k e hlt)
        have Hstop := Lib.hid (wordE_stop s k e hlt)
        have Hstep := Lib.hid (wordE_step s k e hlt)
        rw [hbt] at Hdot Hstep
        by_cases hdd : ((s[e]'hlt).toNat : Int) = 46
        · have gd : (((s[e]'hlt).toNat : Int) == 46) = true := by simpa using hdd
          replace Hstep := Lib.hid (Hstep.out hdd)
          clear hbt hdd Hdot
          have HJ := Lib.hid (fun w => ident_calls s (by omega) ((e : Int) + 1) (by omega) w)
          rw [show ((e : Int) + 1).toNat = e + 1 by omega] at HJ
          have hj1 := identE_ge s (e + 1)
          have hj2 := identE_le s (e + 1) (by omega)
          generalize identE s (e + 1) = j at HJ hj1 hj2 Hstop Hstep
          by_cases hj : j = e + 1
          · have gj : ((j : Int) == (e : Int) + 1) = true := by simp; omega
            replace Hstop := Lib.hid (Hstop.out hj)
            clear hj Hstep
            go_wp2_with (go_at_call 42; refine (HJ.out _).mono ?_; rintro e w' ⟨rfl, ⟨nd, rfl⟩⟩)
            go_ret2
            exact ⟨by rw [hw.out, Hstop.out]; rfl, by repeat (first | exact Drawn0.refl _ | apply Drawn0.step)⟩
          · have gj : ((j : Int) == (e : Int) + 1) = false := by simp; omega
            replace Hstep := Lib.hid (Hstep.out hj)
            have hj' : e + 1 < j := by omega
            clear hj Hstop
            go_wp2_with (go_at_call 42; refine (HJ.out _).mono ?_; rintro e w' ⟨rfl, ⟨nd, rfl⟩⟩)
            go_roundg (s.size - j + 1)
            case measure => omega
            case rel => exact ⟨2, j, rfl, rfl, by omega, hj2, Nat.le_refl _, Lib.hid (hw.out.trans Hstep.out), by repeat (first | exact Drawn0.refl _ | apply Drawn0.step)⟩
        · have gd : (((s[e]'hlt).toNat : Int) == 46) = false := by simpa using hdd
          replace Hdot := Lib.hid (Hdot.out hdd)
          clear hbt hdd Hstop Hstep
          go_wp2
          go_ret2
          exact ⟨by rw [hw.out, Hdot.out]; rfl, by repeat (first | exact Drawn0.refl _ | apply Drawn0.step)⟩
      · have hltz : ¬ (e : Int) < (s.size : Int) := by omega
        have Hend := Lib.hid (wordE_end s k e (by omega))
        go_wp2
        go_ret2
        exact ⟨by rw [hw.out, Hend.out]; rfl, by repeat (first | exact Drawn0.refl _ | apply Drawn0.step)⟩
  · rw [if_neg him]
    have hmz : ¬ (i : Int) < (m : Int) := by omega
    go_enter Tryz.func69, Tryz.ntmps69
    go_wp2_with (go_at_call 42; refine (HI.out _).mono ?_; rintro e w' ⟨rfl, ⟨nd, rfl⟩⟩)
    go_loopg [6, 7] 1 (fun gg v1 v2 wr => v1 = .int .i64 1 ∧ v2 = .int .i64 m ∧ Drawn0 w wr)
    case atStart => exact ⟨rfl, rfl, by repeat (first | exact Drawn0.refl _ | apply Drawn0.step)⟩
    case round =>
      obtain ⟨rfl, rfl, ⟨nd, rfl⟩⟩ := hrel
      go_wp2
      go_ret2
      exact ⟨rfl, by repeat (first | exact Drawn0.refl _ | apply Drawn0.step)⟩
end Go.Proofs.YtmkfeanggmjhmaaGreat.S

/- Walks of the scanner: variables and symbols. -/
namespace Go.Proofs.YtmkfeanggmjhmaaGreat.S
open Go Go.RowKit Go.Proofs.YtmkfeanggmjhmaaGreatW.PrintWords Go.Proofs.YtmkfeanggmjhmaaGreatW.PrintLast Go.Proofs.YtmkfeanggmjhmaaGreatW.PrintMore
open Go.Proofs.YtmkfeanggmjhmaaGreat.M Go.Proofs.YtmkfeanggmjhmaaGreat.K
set_option linter.unusedSimpArgs false
set_option linter.unusedVariables false
attribute [local go_sem] max2_int min2_int max_two min_two

set_option maxHeartbeats 1000000 in
theorem mark_calls (bx v1 v2 : Nat) (s : ByteArray) (i : Nat) (hi : i ≤ s.size) (m : ByteArray) (hm : 0 < m.size) (hm2 : m.size ≤ 1000000000000) (w : World)
    (h1 : w.cell? ⟨v1, 0, none⟩ = some (.int .i64 i)) (h2 : w.cell? ⟨v2, 0, none⟩ = some (.pointer (some ⟨bx, 0, none⟩)))
    (hx : w.cell? ⟨bx, 1, none⟩ = some (.string s)) (hs : s.size ≤ 1000000000000) :
    Calls Tryz.prog 81 #[.string m, .pointer (some ⟨v1, 0, none⟩), .pointer (some ⟨v2, 0, none⟩)] w fun r w' =>
      r = .returned (.tuple #[.int .i64 (markV s i m.data.toList).1, .bool (markV s i m.data.toList).2]) ∧ Drawn0 w w' := by
  have HP := Lib.hid (fun w => prefix_calls s i m w)
  have HI := Lib.hid (fun w => ident_calls s (by omega) ((i : Int) + (m.size : Int)) (by omega) w)
  rw [show ((i : Int) + (m.size : Int)).toNat = i + m.size by omega] at HI
  unfold markV
  have hml : m.data.toList.length = m.size := rfl
  have hge := identE_ge s (i + m.size)
  rw [hml]
  clear hml
  generalize identE s (i + m.size) = j at HI hge ⊢
  generalize preAt s i m.data.toList = p at HP ⊢
  have hiz : (i : Int) ≤ (s.size : Int) := by omega
  cases p with
  | true =>
    rw [if_pos rfl]
    by_cases hj : i + m.size < j
    · have e : decide (i + m.size < j) = true := by simpa using hj
      rw [e]
      have hjz : (i : Int) + (m.size : Int) < (j : Int) := by omega
      clear e
      go_enter Tryz.func81, Tryz.ntmps81
      go_wp2
      go_quiet ((go_at_call 10; exact Calls.quiet_of_same (HP.out _)))
      go_wp2_with (go_at_call 42; refine (HI.out _).mono ?_; rintro e w' ⟨rfl, ⟨nd, rfl⟩⟩)
      go_ret2
      exact ⟨by simp [hjz], by repeat (first | exact Drawn0.refl _ | apply Drawn0.step)⟩
    · have e : decide (i + m.size < j) = false := by simpa using hj
      rw [e]
      have hjz : ¬ (i : Int) + (m.size : Int) < (j : Int) := by omega
      clear e
      go_enter Tryz.func81, Tryz.ntmps81
      go_wp2
      go_quiet ((go_at_call 10; exact Calls.quiet_of_same (HP.out _)))
      go_wp2_with (go_at_call 42; refine (HI.out _).mono ?_; rintro e w' ⟨rfl, ⟨nd, rfl⟩⟩)
      go_ret2
      exact ⟨by simp [hjz], by repeat (first | exact Drawn0.refl _ | apply Drawn0.step)⟩
  | false =>
    simp only [Bool.false_eq_true, if_false]
    have hjz : ¬ (i : Int) + (m.size : Int) < 0 := by omega
    go_enter Tryz.func81, Tryz.ntmps81
    go_wp2
    go_quiet ((go_at_call 10; exact Calls.quiet_of_same (HP.out _)))
    go_wp2
    go_ret2
    exact ⟨by simp; omega, by repeat (first | exact Drawn0.refl _ | apply Drawn0.step)⟩

theorem enters_mark : Enters Tryz.prog 81 := enters_of Tryz.func81 (by kernel_rfl) rfl

set_option maxHeartbeats 2000000 in
theorem variables_calls (bx : Nat) (s : ByteArray) (i : Int) (h0 : 0 ≤ i) (hi : i ≤ s.size) (w : World)
    (hx : w.cell? ⟨bx, 1, none⟩ = some (.string s)) (hs : s.size ≤ 1000000000000) :
    Calls Tryz.prog 70 #[.pointer (some ⟨bx, 0, none⟩), .int .i64 i] w fun r w' =>
      r = .returned (.tuple #[.int .i64 (varsE s i.toNat).1, .int .i64 (varsE s i.toNat).2]) ∧ Below w.heap.size w w' := by
  obtain ⟨i, rfl⟩ := Int.eq_ofNat_of_zero_le h0
  rw [Int.toNat_natCast]
  have hbx : bx < w.heap.size := lt_of_cell hx
  have hin : i ≤ s.size := by omega
  have eg := enters_mark
  unfold Enters at eg
  -- the world behind the two boxes
  have HW : Hid (∀ W, Drawn0 ((w.alloc (.cells #[.pointer (some ⟨bx, 0, none⟩)] 66)).alloc (.cells #[.int .i64 i] 3)) W →
      W.cell? ⟨w.heap.size + 1, 0, none⟩ = some (.int .i64 i) ∧ W.cell? ⟨w.heap.size, 0, none⟩ = some (.pointer (some ⟨bx, 0, none⟩)) ∧ W.cell? ⟨bx, 1, none⟩ = some (.string s) ∧ Below w.heap.size w W) := by
    rintro W ⟨n, rfl⟩
    refine ⟨?_, ?_, ?_, ?_⟩
    · show World.cell? ((w.alloc _).alloc _) _ = _
      exact cell_at _ _ _ _ (by simp only [World.size_alloc])
    · show World.cell? ((w.alloc _).alloc _) _ = _
      rw [cell_old _ _ _ _ (by simp only [World.size_alloc]; omega)]; exact cell_at _ _ _ _ rfl
    · show World.cell? ((w.alloc _).alloc _) _ = _
      rw [cell_old _ _ _ _ (by simp only [World.size_alloc]; omega), cell_old _ _ _ _ hbx]; exact hx
    · exact below_drewN (((Below.refl _ w).alloc (Nat.le_refl _) _).alloc (by simp only [World.size_alloc]; omega) _) n
  have HM : Hid (∀ (m : ByteArray) (W : World), 0 < m.size → m.size ≤ 1000000000000 → Drawn0 ((w.alloc (.cells #[.pointer (some ⟨bx, 0, none⟩)] 66)).alloc (.cells #[.int .i64 i] 3)) W →
      Calls Tryz.prog 81 #[.string m, .pointer (some ⟨w.heap.size + 1, 0, none⟩), .pointer (some ⟨w.heap.size, 0, none⟩)] W fun r w' =>
      r = .returned (.tuple #[.int .i64 (markV s i m.data.toList).1, .bool (markV s i m.data.toList).2]) ∧ Drawn0 W w') := fun m W hm hm2 hW =>
    mark_calls bx _ _ s i hin m hm hm2 W (HW.out W hW).1 (HW.out W hW).2.1 (HW.out W hW).2.2.1 hs
  have HM1 := Lib.hid (fun W => HM.out ⟨#[39]⟩ W (by decide) (by decide))
  have HM2 := Lib.hid (fun W => HM.out ⟨#[63, 39]⟩ W (by decide) (by decide))
  have HM3 := Lib.hid (fun W => HM.out ⟨#[63]⟩ W (by decide) (by decide))
  change Hid (∀ W, _ → Calls _ _ _ _ fun r w' => r = .returned (.tuple #[.int .i64 (markV s i [39]).1, .bool (markV s i [39]).2]) ∧ _) at HM1
  change Hid (∀ W, _ → Calls _ _ _ _ fun r w' => r = .returned (.tuple #[.int .i64 (markV s i [63, 39]).1, .bool (markV s i [63, 39]).2]) ∧ _) at HM2
  change Hid (∀ W, _ → Calls _ _ _ _ fun r w' => r = .returned (.tuple #[.int .i64 (markV s i [63]).1, .bool (markV s i [63]).2]) ∧ _) at HM3
  clear HM
  have HX := Lib.hid (fun (e : Nat) (he : e ≤ s.size) (W : World) (hW : W.cell? ⟨bx, 1, none⟩ = some (.string s)) => indexed_calls bx s e (by omega) (by omega) W hW hs)
  unfold varsE
  cases h1 : markE s i [39] with
  | some e =>
    rw [markV_some h1] at HM1
    clear h1 HM2 HM3 HX
    go_enter Tryz.func70, Tryz.ntmps70
    go_wp2_with fail
    refine (HM1.out _ (by repeat (first | exact Drawn0.refl _ | apply Drawn0.step))).mono ?_
    rintro r w' ⟨rfl, ⟨nd, rfl⟩⟩
    go_wp2
    go_ret2
    exact ⟨rfl, (HW.out _ (by repeat (first | exact Drawn0.refl _ | apply Drawn0.step))).2.2.2⟩
  | none =>
    obtain ⟨e1, he1⟩ := markV_none h1
    rw [he1] at HM1
    clear h1 he1
    cases h2 : markE s i [63, 39] with
    | some e =>
      rw [markV_some h2] at HM2
      have he := markE_le hin h2
      clear h2 HM3
      have HX' := Lib.hid (HX.out e (by omega))
      rw [Int.toNat_natCast] at HX'
      clear HX
      go_enter Tryz.func70, Tryz.ntmps70
      go_wp2_with fail
      refine (HM1.out _ (by repeat (first | exact Drawn0.refl _ | apply Drawn0.step))).mono ?_
      rintro r w' ⟨rfl, ⟨nd, rfl⟩⟩
      go_wp2_with fail
      refine (HM2.out _ (by repeat (first | exact Drawn0.refl _ | apply Drawn0.step))).mono ?_
      rintro r w' ⟨rfl, ⟨nd, rfl⟩⟩
      go_wp2_with fail
      refine (HX'.out _ (HW.out _ (by repeat (first | exact Drawn0.refl _ | apply Drawn0.step))).2.2.1).mono ?_
      rintro r w' ⟨rfl, ⟨nd, rfl⟩⟩
      go_wp2
      go_ret2
      exact ⟨rfl, (HW.out _ (by repeat (first | exact Drawn0.refl _ | apply Drawn0.step))).2.2.2⟩
    | none =>
      obtain ⟨e2, he2⟩ := markV_none h2
      rw [he2] at HM2
      clear h2 he2
      cases h3 : markE s i [63] with
      | some e =>
        rw [markV_some h3] at HM3
        have he := markE_le hin h3
        clear h3
        have HX' := Lib.hid (HX.out e (by omega))
        rw [Int.toNat_natCast] at HX'
        clear HX
        go_enter Tryz.func70, Tryz.ntmps70
        go_wp2_with fail
        refine (HM1.out _ (by repeat (first | exact Drawn0.refl _ | apply Drawn0.step))).mono ?_
        rintro r w' ⟨rfl, ⟨nd, rfl⟩⟩
        go_wp2_with fail
        refine (HM2.out _ (by repeat (first | exact Drawn0.refl _ | apply Drawn0.step))).mono ?_
        rintro r w' ⟨rfl, ⟨nd, rfl⟩⟩
        go_wp2_with fail
        refine (HM3.out _ (by repeat (first | exact Drawn0.refl _ | apply Drawn0.step))).mono ?_
        rintro r w' ⟨rfl, ⟨nd, rfl⟩⟩
        go_wp2_with fail
        refine (HX'.out _ (HW.out _ (by repeat (first | exact Drawn0.refl _ | apply Drawn0.step))).2.2.1).mono ?_
        rintro r w' ⟨rfl, ⟨nd, rfl⟩⟩
        go_wp2
        go_ret2
        exact ⟨rfl, (HW.out _ (by repeat (first | exact Drawn0.refl _ | apply Drawn0.step))).2.2.2⟩
      | none =>
        obtain ⟨e3, he3⟩ := markV_none h3
        rw [he3] at HM3
        clear h3 he3 HX
        go_enter Tryz.func70, Tryz.ntmps70
        go_wp2_with fail
        refine (HM1.out _ (by repeat (first | exact Drawn0.refl _ | apply Drawn0.step))).mono ?_
        rintro r w' ⟨rfl, ⟨nd, rfl⟩⟩
        go_wp2_with fail
        refine (HM2.out _ (by repeat (first | exact Drawn0.refl _ | apply Drawn0.step))).mono ?_
        rintro r w' ⟨rfl, ⟨nd, rfl⟩⟩
        go_wp2_with fail
        refine (HM3.out _ (by repeat (first | exact Drawn0.refl _ | apply Drawn0.step))).mono ?_
        rintro r w' ⟨rfl, ⟨nd, rfl⟩⟩
        go_wp2
        go_quiet (fail)
        go_wp2
        go_ret2
        exact ⟨rfl, (HW.out _ (by repeat (first | exact Drawn0.refl _ | apply Drawn0.step))).2.2.2⟩

theorem symbols_calls (bx : Nat) (s : ByteArray) (i : Int) (h0 : 0 ≤ i) (hi : i < s.size) (w : World)
    (hx : w.cell? ⟨bx, 1, none⟩ = some (.string s)) (hs : s.size ≤ 1000000000000) :
    Calls Tryz.prog 72 #[.pointer (some ⟨bx, 0, none⟩), .int .i64 i] w fun r w' =>
      r = .returned (.tuple #[.int .i64 7, .int .i64 (symE s i.toNat)]) ∧ Drawn0 w w' := by
  obtain ⟨i, rfl⟩ := Int.eq_ofNat_of_zero_le h0
  rw [Int.toNat_natCast]
  have HN := Lib.hid (fun w => named_calls s (by omega) i h0 (by omega) w)
  have HR := Lib.hid (fun w => run_calls s (by omega) i h0 w)
  rw [Int.toNat_natCast] at HN HR
  have hn1 := namedE_ge s i
  have hn2 := namedE_le s i (by omega)
  have hr1 := whileE_ge signB s i
  have hr2 := whileE_le signB s i (by omega)
  change i ≤ runE s i at hr1
  change runE s i ≤ s.size at hr2
  have hlt : i < s.size := by omega
  have hbt : bt s i = ((s[i]'hlt).toNat : Int) := by unfold bt; simp [hlt]
  have HB := Lib.hid (fun w => isPoint_calls ((s[i]'hlt).toNat : Int) w)
  unfold symE
  rw [hbt]
  clear hbt
  generalize namedE s i = a at HN hn1 hn2 ⊢
  generalize runE s i = b at HR hr1 hr2 ⊢
  generalize pointB ((s[i]'hlt).toNat : Int) = p at HB ⊢
  have hltz : (i : Int) < (s.size : Int) := hi
  by_cases hab : a < b
  · have habz : (a : Int) < (b : Int) := by omega
    rw [show max a b = b by omega]
    by_cases hbi : b = i
    · omega
    · rw [if_neg hbi]
      have gb : ((b : Int) == (i : Int)) = false := by simp; omega
      clear hbi
      go_enter Tryz.func72, Tryz.ntmps72
      go_wp2
      go_quiet ((first | (go_at_call 44; exact Calls.quiet_of ((HN.out _).mono fun _ _ ⟨he, hd⟩ => ⟨he, hd.out⟩)) | (go_at_call 43; exact Calls.quiet_of ((HR.out _).mono fun _ _ ⟨he, hd⟩ => ⟨he, hd.out⟩))))
      go_wp2
      go_ret2
      exact ⟨rfl, by repeat (first | exact Drawn0.refl _ | apply Drawn0.step)⟩
  · have habz : ¬ (a : Int) < (b : Int) := by omega
    rw [show max a b = a by omega]
    by_cases hai : a = i
    · have ga : ((a : Int) == (i : Int)) = true := by simp; omega
      rw [if_pos hai]
      cases p with
      | true =>
        rw [if_pos rfl]
        have Hai := Lib.hid hai
        clear hai
        go_enter Tryz.func72, Tryz.ntmps72
        go_wp2
        go_quiet ((first | (go_at_call 44; exact Calls.quiet_of ((HN.out _).mono fun _ _ ⟨he, hd⟩ => ⟨he, hd.out⟩)) | (go_at_call 43; exact Calls.quiet_of ((HR.out _).mono fun _ _ ⟨he, hd⟩ => ⟨he, hd.out⟩))))
        go_wp2_with (go_at_call 45; refine (HB.out _).mono ?_; rintro e w' ⟨rfl, ⟨nd, rfl⟩⟩)
        go_ret2
        exact ⟨by rw [Hai.out]; rfl, by repeat (first | exact Drawn0.refl _ | apply Drawn0.step)⟩
      | false =>
        simp only [Bool.false_eq_true, if_false]
        have Hai := Lib.hid hai
        clear hai
        go_enter Tryz.func72, Tryz.ntmps72
        go_wp2
        go_quiet ((first | (go_at_call 44; exact Calls.quiet_of ((HN.out _).mono fun _ _ ⟨he, hd⟩ => ⟨he, hd.out⟩)) | (go_at_call 43; exact Calls.quiet_of ((HR.out _).mono fun _ _ ⟨he, hd⟩ => ⟨he, hd.out⟩))))
        go_wp2_with (go_at_call 45; refine (HB.out _).mono ?_; rintro e w' ⟨rfl, ⟨nd, rfl⟩⟩)
        go_ret2
        exact ⟨by rw [Hai.out]; rfl, by repeat (first | exact Drawn0.refl _ | apply Drawn0.step)⟩
    · rw [if_neg hai]
      have ga : ((a : Int) == (i : Int)) = false := by simp; omega
      clear hai
      go_enter Tryz.func72, Tryz.ntmps72
      go_wp2
      go_quiet ((first | (go_at_call 44; exact Calls.quiet_of ((HN.out _).mono fun _ _ ⟨he, hd⟩ => ⟨he, hd.out⟩)) | (go_at_call 43; exact Calls.quiet_of ((HR.out _).mono fun _ _ ⟨he, hd⟩ => ⟨he, hd.out⟩))))
      go_wp2
      go_ret2
      exact ⟨rfl, by repeat (first | exact Drawn0.refl _ | apply Drawn0.step)⟩
end Go.Proofs.YtmkfeanggmjhmaaGreat.S
