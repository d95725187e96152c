/- The printed reference of tokens is the plain scanner: one token, all tokens. -/
import Derived.Test.YtmkfeanggmjhmaaL5
namespace Go.Proofs.Ytmkfeanggmjhmaa.L
open Go Go.RowKit Go.Proofs.YtmkfeanggmjhmaaW.PrintWords Go.Proofs.YtmkfeanggmjhmaaW.PrintLast Go.Proofs.YtmkfeanggmjhmaaW.PrintMore
open Go.Proofs.Ytmkfeanggmjhmaa.M Go.Proofs.Ytmkfeanggmjhmaa.E Go.Proofs.Ytmkfeanggmjhmaa.PTokenScans

/-- the keywords as a set -/
def kwL (l : List ByteArray) (t : List UInt8) : Bool := l.any (fun x => t == x.data.toList)
theorem ext_pre {s : ByteArray} {i e : Nat} (hie : i ≤ e) (he : e ≤ s.size) {x : ByteArray} (h : (s.extract i e).data.toList = x.data.toList) : preAt s i x.data.toList = true ∧ i + x.size = e := by
  have e1 : (s.extract i e).data.toList = (s.data.toList.drop i).take (e - i) := by
    rw [ByteArray.data_extract, Array.toList_extract, List.extract_eq_take_drop]
  rw [e1] at h
  have hl : x.size = e - i := by
    have := congrArg List.length h
    rw [List.length_take, List.length_drop] at this
    have a : s.data.toList.length = s.size := rfl
    have b : x.data.toList.length = x.size := rfl
    omega
  refine ⟨?_, by omega⟩
  unfold preAt
  rw [← h]
  exact List.isPrefixOf_iff_prefix.2 (List.take_prefix _ _)
theorem pre_ext {s : ByteArray} {i e : Nat} (he : e ≤ s.size) {x : ByteArray} (hp : preAt s i x.data.toList = true) (h : i + x.size = e) : (s.extract i e).data.toList = x.data.toList := by
  have e1 : (s.extract i e).data.toList = (s.data.toList.drop i).take (e - i) := by
    rw [ByteArray.data_extract, Array.toList_extract, List.extract_eq_take_drop]
  rw [e1]
  obtain ⟨r, hr⟩ := pre_drop hp
  rw [hr]
  have b : x.data.toList.length = x.size := rfl
  rw [List.take_append_of_le_length (by omega), List.take_of_length_le (by omega)]

def oneP (i : Nat) : Except Int ((Int × ByteArray) × Nat) → Int × ByteArray × Int × Int × Int
  | .ok ((k, t), e) => (k, t, i, e, 0)
  | .error c => (0, ⟨#[]⟩, 0, i, c)

def kw10 (l : List ByteArray) (s : ByteArray) (i : Nat) (r : Int × Nat) : Int := if (r.1 = 1 ∨ r.1 = 7) ∧ kwL l (s.extract i r.2).data.toList = true then 10 else r.1
def endP (s : ByteArray) (i : Nat) (k : Int) (e : Nat) : Int × ByteArray × Int × Int × Int :=
  if e = i then (0, ⟨#[]⟩, 0, i, 160) else if (s.extract i e).data.toList = closed then (0, ⟨#[]⟩, 0, i, 160) else (k, s.extract i e, i, e, 0)

theorem kw_step (s : ByteArray) (i : Nat) (hi : i < s.size) (r : Int × Nat) (hg : Good s i r) (hie : i ≤ r.2) (hes : r.2 ≤ s.size) (a : List ByteArray) (x : ByteArray) :
    kw10 (a ++ [x]) s i r = if (r.1 = 1 ∨ r.1 = 7) ∧ (s.extract i r.2).data.toList = x.data.toList then 10 else kw10 a s i r := by
  unfold kw10 kwL
  rw [List.any_append]
  simp only [List.any_cons, List.any_nil, Bool.or_false, Bool.or_eq_true, beq_iff_eq]
  by_cases h1 : r.1 = 1 ∨ r.1 = 7
  · by_cases h2 : (s.extract i r.2).data.toList = x.data.toList
    · simp only [h1, h2, or_true, and_self, if_true]
    · simp only [h1, h2, or_false, true_and, if_false]
  · simp only [h1, false_and, if_false]

theorem one_loop (l : List ByteArray) (hll : l.length ≤ 1000000) (hk : ∀ x ∈ l, kwB x = true) (hx : ∀ x ∈ l, x.size ≤ 1000000000) (s : ByteArray) (hs : s.size ≤ 1000000000) (i : Nat) (hi : i < s.size) (r : Int × Nat) (hg : Good s i r) (hie : i ≤ r.2) (hes : r.2 ≤ s.size) :
    ∀ d j : Nat, l.length - j ≤ d → j ≤ l.length → Evt (fun k => triforiumref14_one.l0 k l s i (kw10 (l.take j) s i r) (r.2 : Int) j) (endP s i (kw10 l s i r) r.2) := by
  have hend : ∀ j : Nat, l.length ≤ j → j ≤ l.length → Evt (fun k => triforiumref14_one.l0 k l s i (kw10 (l.take j) s i r) (r.2 : Int) j) (endP s i (kw10 l s i r) r.2) := by
    intro j h1 h2
    obtain rfl : j = l.length := by omega
    rw [List.take_length]
    refine Evt.succ (fun k => rfl) ?_
    refine Evt.ff (by omega) ?_
    unfold endP
    by_cases he : r.2 = i
    · rw [if_pos he]
      exact Evt.tt (by omega) (Evt.const _)
    · rw [if_neg he]
      refine Evt.ff (by omega) (Evt.tt (by omega) (Evt.tt (by omega) (Evt.tt (by omega) ?_)))
      rw [Int.toNat_natCast, Int.toNat_natCast, Lib.toList_data]
      by_cases hc : (s.extract i r.2).data.toList = closed
      · rw [if_pos hc]
        exact Evt.tt hc (Evt.const _)
      · rw [if_neg hc]
        exact Evt.ff hc (Evt.const _)
  intro d
  induction d with
  | zero => intro j hd hj; exact hend j (by omega) hj
  | succ d ih =>
    intro j hd hj
    by_cases hlt : j < l.length
    · have hmem := List.getElem_mem hlt
      have hkx := hk _ hmem
      have hxs := hx _ hmem
      have hst := kw_step s i hi r hg hie hes (l.take j) (l[j]'hlt)
      rw [← List.take_succ_eq_append_getElem hlt] at hst
      have hnx := ih (j + 1) (by omega) (by omega)
      have hrd := rd_eq l j hlt
      generalize l[j]'hlt = x at hkx hxs hst hrd
      have h0 : 0 < x.size := by
        unfold kwB at hkx
        simp only [Bool.and_eq_true, Bool.not_eq_true', Bool.or_eq_false_iff, decide_eq_false_iff_not] at hkx
        have := hkx.1.1.1.1
        omega
      have ej : wrap64 ((j : Int) + 1) = ((j + 1 : Nat) : Int) := w64 (by omega) (by omega)
      have ez : wrap64 ((i : Int) + (x.size : Int)) = ((i + x.size : Nat) : Int) := w64 (by omega) (by omega)
      -- the keyword changes nothing
      have hsame : ¬ ((r.1 = 1 ∨ r.1 = 7) ∧ (s.extract i r.2).data.toList = x.data.toList) → Evt (fun k => triforiumref14_one.l0 k l s i (kw10 (l.take j) s i r) (r.2 : Int) (wrap64 ((j : Int) + 1))) (endP s i (kw10 l s i r) r.2) := by
        intro hn
        rw [if_neg hn] at hst
        rw [ej, ← hst]
        exact hnx
      -- the keyword is the token
      have hten : ((r.1 = 1 ∨ r.1 = 7) ∧ (s.extract i r.2).data.toList = x.data.toList) → i + x.size = r.2 → Evt (fun k => triforiumref14_one.l0 k l s i 10 (wrap64 ((i : Int) + (x.size : Int))) (wrap64 ((j : Int) + 1))) (endP s i (kw10 l s i r) r.2) := by
        intro hn hez
        rw [if_pos hn] at hst
        rw [hst] at hnx
        rw [ej, ez, hez]
        exact hnx
      clear hnx ih hend
      refine Evt.succ (fun k => rfl) ?_
      refine Evt.tt (by clear ej ez hst hten hsame; omega) (Evt.tt (by clear ej ez hst hten hsame; omega) ?_)
      rw [hrd]
      refine Evt.bind (Evt.of _ (starts_eq s (by clear ej ez hst hten hsame; omega) i (by clear ej ez hst hten hsame; omega) x (by clear ej ez hst hten hsame; omega))) ?_
      by_cases hp : preAt s i x.data.toList = true
      · refine Evt.tt hp ?_
        by_cases hge : r.2 ≤ i + x.size
        · refine Evt.tt (by rw [ez]; clear ej ez hst hten hsame; omega) (Evt.tt (by clear ej ez hst hten hsame; omega) ?_)
          refine Evt.bind (Evt.of _ (letter_eq _)) ?_
          have hb := bt_pre hp 0 h0
          rw [Nat.add_zero] at hb
          by_cases hl : letterB (bt x ((0 : Nat) : Int)) = true
          · refine Evt.tt hl ?_
            have hgl := good_letter hi (by rw [hb]; exact hl) hg
            by_cases hone : kw10 (l.take j) s i r = 1
            · refine Evt.tt hone ?_
              have hr1 : r.1 = 1 := by
                unfold kw10 at hone
                split at hone
                · exact absurd hone (by decide)
                · exact hone
              by_cases hez : i + x.size = r.2
              · refine Evt.tt (by rw [ez, hez]) ?_
                exact hten ⟨.inl hr1, pre_ext hes hp hez⟩ hez
              · refine Evt.ff (by rw [ez]; intro e; exact hez (by clear ej ez hst hten hsame; omega)) ?_
                exact hsame (fun h => hez (ext_pre hie hes h.2).2)
            · refine Evt.ff hone ?_
              by_cases hT : (r.1 = 1 ∨ r.1 = 7) ∧ (s.extract i r.2).data.toList = x.data.toList
              · -- it is a keyword already
                have hr1 : r.1 = 1 := by
                  rcases hgl.2 with h | h
                  · exact h
                  · rcases hT.1 with h' | h'
                    · exact h'
                    · rw [h] at h'; exact absurd h' (by decide)
                have hk10 : kw10 (l.take j) s i r = 10 := by
                  unfold kw10 at hone ⊢
                  split
                  · rfl
                  · rename_i hn
                    rw [if_neg hn] at hone
                    exact absurd hr1 hone
                have hez := (ext_pre hie hes hT.2).2
                have := hten hT hez
                rw [ez, hez] at this
                rw [hk10]
                exact this
              · exact hsame hT
          · refine Evt.ff hl ?_
            have hks := kw_sym hi hkx hp (Bool.eq_false_iff.2 hl) hg hge
            have hez : i + x.size = r.2 := by rw [hks]
            exact hten ⟨.inr (by rw [hks]), pre_ext hes hp hez⟩ hez
        · refine Evt.ff (by rw [ez]; clear ej ez hst hten hsame; omega) ?_
          exact hsame (fun h => hge (by have := (ext_pre hie hes h.2).2; clear ej ez hst hten hsame; omega))
      · refine Evt.ff hp ?_
        exact hsame (fun h => hp (ext_pre hie hes h.2).1)
    · exact hend j (by omega) hj

theorem one_ev (l : List ByteArray) (hll : l.length ≤ 1000000) (hk : ∀ x ∈ l, kwB x = true) (hx : ∀ x ∈ l, x.size ≤ 1000000000) (s : ByteArray) (hs : s.size ≤ 1000000000) (i : Nat) (hi : i < s.size) :
    Evt (fun k => triforiumref14_one.f k l s i) (oneP i (oneE (kwL l) s i)) := by
  unfold triforiumref14_one.f
  refine Evt.tt (by omega) (Evt.tt (by omega) ?_)
  by_cases h34 : bt s i = 34
  · refine Evt.tt h34 ?_
    rw [oneE_text h34]
    refine (Evt.bind (text_ev s hs i hi) (Evt.const _)).eq ?_
    cases textE s (i + 1) [] <;> rfl
  · refine Evt.ff h34 ?_
    have eo : (⟨#[92, 60, 111, 112, 101, 110, 62]⟩ : ByteArray).data.toList = opened := rfl
    refine Evt.bind (Evt.of _ (starts_eq s (by omega) i (by omega) ⟨#[92, 60, 111, 112, 101, 110, 62]⟩ (by decide))) ?_
    rw [eo]
    by_cases hp : preAt s i opened = true
    · refine Evt.tt hp ?_
      rw [oneE_quote h34 hp]
      refine (Evt.bind (quoted_ev s hs i hi hp) (Evt.const _)).eq ?_
      cases nestE s opened closed i 0 <;> rfl
    · refine Evt.ff hp ?_
      obtain ⟨r, hg, hie, hes, hev⟩ := plain_ev s hs i hi
      refine Evt.bind hev ?_
      have hpf := Bool.eq_false_iff.2 hp
      have e0 : kw10 ([] : List ByteArray) s i r = r.1 := by unfold kw10 kwL; simp
      obtain ⟨g1, g2⟩ := hg
      by_cases he : r.2 = i
      · -- nothing begins here
        rw [oneE_none h34 hpf (k := (bestE s i 4).1) (e := (bestE s i 4).2) rfl (.inl (by rw [← g1]; exact he))]
        have h := one_loop l hll hk hx s hs i hi r ⟨g1, g2⟩ hie hes _ 0 (Nat.le_refl _) (by omega)
        rw [List.take_zero, e0] at h
        refine h.eq ?_
        unfold endP
        rw [if_pos he]
        rfl
      · have hk1 := g2 he
        have h := one_loop l hll hk hx s hs i hi r ⟨g1, g2⟩ hie hes _ 0 (Nat.le_refl _) (by omega)
        rw [List.take_zero, e0] at h
        refine h.eq ?_
        unfold endP
        rw [if_neg he]
        by_cases hc : (s.extract i r.2).data.toList = closed
        · rw [if_pos hc, oneE_none h34 hpf (k := (bestE s i 4).1) (e := (bestE s i 4).2) rfl (.inr (by rw [← g1]; exact hc))]
          rfl
        · rw [if_neg hc, oneE_some h34 hpf (k := (bestE s i 4).1) (e := (bestE s i 4).2) rfl (by rw [← g1]; exact he) (by rw [← g1]; exact hc)]
          unfold oneP kw10
          rw [← g1, hk1]

def s49 (x : Tok) : S49 := ⟨x.kind, x.text, x.at_⟩
def s36 (x : Tok) : S36 := ⟨x.kind, x.text, x.at_⟩
def scP : List Tok × Option (Nat × Int) → List S49 × Int × Int
  | (xs, none) => (xs.map s49, 0, 0)
  | (_, some (q, c)) => ([], q, c)
theorem codes_blank : ∀ p : Except Nat Nat, (blP p).2 = 0 ↔ ∃ j, p = .ok j := by
  intro p
  cases p with
  | ok j => exact ⟨fun _ => ⟨j, rfl⟩, fun _ => rfl⟩
  | error q => exact ⟨fun h => absurd h (show (162 : Int) ≠ 0 by decide), fun ⟨j, h⟩ => by cases h⟩

theorem oneE_code {kw : List UInt8 → Bool} {s : ByteArray} {i : Nat} {c : Int} (h : oneE kw s i = .error c) : c ≠ 0 := by
  unfold oneE at h
  split at h
  · split at h
    · cases h
    · cases h; decide
  · split at h
    · split at h
      · cases h
      · cases h; decide
    · split at h
      · cases h; decide
      · cases h
theorem Scan_loop (l : List ByteArray) (hll : l.length ≤ 1000000) (hk : ∀ x ∈ l, kwB x = true) (hx : ∀ x ∈ l, x.size ≤ 1000000000) (s : ByteArray) (hs : s.size ≤ 1000000000) :
    ∀ d (i j : Nat) (pre : List Tok), s.size - i ≤ d → i ≤ s.size → pre.length ≤ i →
      (blanksE s i = .ok j → Evt (fun k => triforiumref14_Scan.l0 k l s (pre.map s49) i) (scP (scanFrom (kwL l) s j pre))) ∧
      (∀ q, blanksE s i = .error q → Evt (fun k => triforiumref14_Scan.l0 k l s (pre.map s49) i) ([], (q : Int), 162)) := by
  intro d
  induction d using Nat.strongRecOn with
  | _ d ih =>
    intro i j pre hd hi hpre
    have hbl := blanks_ev s hs i hi
    constructor
    · intro hb
      have hj := blanksE_le hi hb
      rw [hb] at hbl
      refine Evt.succ (fun k => rfl) ?_
      refine Evt.bind hbl ?_
      refine Evt.tt rfl ?_
      by_cases hjs : j < s.size
      · refine Evt.ff (show ¬ (j : Int) = (s.size : Int) by omega) ?_
        refine Evt.bind (one_ev l hll hk hx s hs j hjs) ?_
        rw [scanFrom_eq _ s j pre hjs]
        cases ho : oneE (kwL l) s j with
        | error c =>
          exact Evt.ff (oneE_code ho) (Evt.const _)
        | ok r =>
          obtain ⟨⟨k0, t0⟩, e⟩ := r
          have hl := oneE_lt hjs ho
          simp only at hl
          refine Evt.tt rfl (Evt.tt (by rw [List.length_map]; omega) ?_)
          have hm : (pre.map s49) ++ [(⟨k0, t0, (j : Int)⟩ : S49)] = (pre ++ [(⟨k0, t0, j⟩ : Tok)]).map s49 := by rw [List.map_append]; rfl
          have hn := ih (s.size - e) (by omega) e
          cases hb2 : blanksE s e with
          | ok j2 =>
            have := (hn j2 (pre ++ [⟨k0, t0, j⟩]) (Nat.le_refl _) hl.2 (by simp; omega)).1 hb2
            rw [← hm] at this
            simp only [oneP, hb2]
            exact this
          | error q =>
            have := (hn 0 (pre ++ [⟨k0, t0, j⟩]) (Nat.le_refl _) hl.2 (by simp; omega)).2 q hb2
            rw [← hm] at this
            simp only [oneP, hb2]
            exact this
      · rw [scanFrom_end _ s j pre (by omega)]
        exact Evt.tt (show (j : Int) = (s.size : Int) by omega) (Evt.const _)
    · intro q hb
      rw [hb] at hbl
      refine Evt.succ (fun k => rfl) ?_
      refine Evt.bind hbl ?_
      exact Evt.ff (show ¬ (162 : Int) = 0 by decide) (Evt.const _)

/-- the keywords that are right are keywords -/
theorem check_kw : ∀ (l met : List ByteArray), checkL met l = 0 → ∀ x ∈ l, kwB x = true := by
  intro l
  induction l with
  | nil => intro met _ x hx; cases hx
  | cons a r ih =>
    intro met h x hx
    unfold checkL at h
    by_cases ha : kwB a = true
    · rw [if_pos ha] at h
      split at h
      · exact absurd h (by decide)
      · rcases List.mem_cons.1 hx with rfl | hx
        · exact ha
        · exact ih _ h x hx
    · rw [if_neg ha] at h
      exact absurd h (by decide)
theorem checkE_kw {l : List ByteArray} (h : checkE l = 0) : l.length ≤ 500 ∧ ∀ x ∈ l, kwB x = true := by
  unfold checkE at h
  split at h
  · exact absurd h (by decide)
  · exact ⟨by omega, check_kw l [] h⟩

def scanRef (l : List ByteArray) (s : ByteArray) : List Tok × Nat × Int :=
  if checkE l ≠ 0 then ([], 0, checkE l) else if 40000 < s.size then ([], 0, 7) else
    match scanE (kwL l) s with
    | (xs, none) => (xs, 0, 0)
    | (_, some (q, c)) => ([], q, c)
theorem Scan_ev (l : List ByteArray) (hx : ∀ x ∈ l, x.size ≤ 1000000000) (s : ByteArray) :
    Evt (fun k => triforiumref14_Scan.f k l s) ((scanRef l s).1.map s49, ((scanRef l s).2.1 : Int), (scanRef l s).2.2) := by
  unfold triforiumref14_Scan.f scanRef
  refine Evt.bind (Check_ev l hx) ?_
  by_cases h0 : checkE l = 0
  · rw [if_neg (fun h => h h0)]
    refine Evt.tt h0 ?_
    obtain ⟨hl, hk⟩ := checkE_kw h0
    by_cases hbig : 40000 < s.size
    · rw [if_pos hbig]
      exact Evt.tt (by omega) (Evt.const _)
    · rw [if_neg hbig]
      refine Evt.ff (by omega) ?_
      have h := Scan_loop l (by omega) hk hx s (by omega) (s.size - 0) 0
      unfold scanE
      cases hb : blanksE s 0 with
      | error q =>
        exact (h 0 [] (Nat.le_refl _) (by omega) (by simp)).2 q hb
      | ok j =>
        refine ((h j [] (Nat.le_refl _) (by omega) (by simp)).1 hb).eq ?_
        simp only
        generalize scanFrom (kwL l) s j [] = R
        obtain ⟨xs, _ | ⟨q, c⟩⟩ := R <;> rfl
  · rw [if_pos h0]
    exact Evt.ff h0 (Evt.const _)
end Go.Proofs.Ytmkfeanggmjhmaa.L
namespace Go.Proofs.Ytmkfeanggmjhmaa.L
open Go Go.RowKit Go.Proofs.YtmkfeanggmjhmaaW.PrintWords Go.Proofs.YtmkfeanggmjhmaaW.PrintLast Go.Proofs.YtmkfeanggmjhmaaW.PrintMore
open Go.Proofs.Ytmkfeanggmjhmaa.M Go.Proofs.Ytmkfeanggmjhmaa.E Go.Proofs.Ytmkfeanggmjhmaa.PTokenScans

theorem rd49 (xs : List Tok) (j : Nat) (h : j < xs.length) : rd_T49 (xs.map s49) (j : Int) = s49 (xs[j]'h) := by
  unfold rd_T49; simp [h]
theorem rd36 (xs : List Tok) (j : Nat) (h : j < xs.length) : rd_T36 (xs.map s36) (j : Int) = s36 (xs[j]'h) := by
  unfold rd_T36; simp [h]
theorem Tokens_ev (xs : List Tok) (hl : xs.length ≤ 1000000000) : Evt (fun k => triforiumlaw14_Tokens.f k (xs.map s49)) (xs.map s36) := by
  have key : ∀ d j : Nat, xs.length - j ≤ d → j ≤ xs.length → Evt (fun k => triforiumlaw14_Tokens.l0 k ((xs.take j).map s36) (xs.map s49) (((xs.map s49).length : Nat) : Int) (j : Int)) (xs.map s36) := by
    intro d
    induction d with
    | zero =>
      intro j hd hj
      obtain rfl : j = xs.length := by omega
      refine Evt.succ (fun k => rfl) ?_
      refine (Evt.ff (by rw [List.length_map]; omega) (Evt.const _)).eq ?_
      rw [List.take_length]
    | succ d ih =>
      intro j hd hj
      by_cases hlt : j < xs.length
      · refine Evt.succ (fun k => rfl) ?_
        refine Evt.tt (by rw [List.length_map]; omega) (Evt.tt (by omega) (Evt.tt (by rw [List.length_map]; omega) (Evt.tt (by simp; omega) ?_)))
        rw [rd49 xs j hlt, w64 (x := (j : Int) + 1) (by omega) (by omega)]
        have := ih (j + 1) (by omega) (by omega)
        rw [List.take_succ_eq_append_getElem hlt, List.map_append] at this
        exact this
      · obtain rfl : j = xs.length := by omega
        refine Evt.succ (fun k => rfl) ?_
        refine (Evt.ff (by rw [List.length_map]; omega) (Evt.const _)).eq ?_
        rw [List.take_length]
  exact key _ 0 (Nat.le_refl _) (by omega)

theorem Equal_ev (xs : List Tok) (hl : xs.length ≤ 1000000000) : Evt (fun k => token_Token.f k (xs.map s36) (xs.map s36)) true := by
  unfold token_Token.f
  refine Evt.tt rfl ?_
  have key : ∀ d j : Nat, xs.length - j ≤ d → j ≤ xs.length → Evt (fun k => token_Token.l0 k (xs.map s36) (xs.map s36) (((xs.map s36).length : Nat) : Int) (j : Int)) true := by
    intro d
    induction d with
    | zero =>
      intro j hd hj
      refine Evt.succ (fun k => rfl) ?_
      exact Evt.ff (by rw [List.length_map]; omega) (Evt.const _)
    | succ d ih =>
      intro j hd hj
      by_cases hlt : j < xs.length
      · refine Evt.succ (fun k => rfl) ?_
        refine Evt.tt (by rw [List.length_map]; omega) (Evt.tt (by omega) (Evt.tt (by rw [List.length_map]; omega) (Evt.tt (by rw [List.length_map]; omega) ?_)))
        refine Evt.ff (by simp) ?_
        rw [w64 (x := (j : Int) + 1) (by omega) (by omega)]
        exact ih (j + 1) (by omega) (by omega)
      · refine Evt.succ (fun k => rfl) ?_
        exact Evt.ff (by rw [List.length_map]; omega) (Evt.const _)
  exact key _ 0 (Nat.le_refl _) (by omega)
theorem Same_ev (xs : List Tok) (hl : xs.length ≤ 1000000000) : Evt (fun k => triforiumlaw14_Same.f k (xs.map s36) (xs.map s49)) true := by
  unfold triforiumlaw14_Same.f
  refine Evt.bind (Tokens_ev xs hl) ?_
  refine Evt.bind (Equal_ev xs hl) ?_
  exact Evt.const _

theorem scanF_len (kw : List UInt8 → Bool) (s : ByteArray) : ∀ d i pre, i ≤ s.size → (scanF kw s d i pre).1.length ≤ pre.length + (s.size - i) := by
  intro d
  induction d with
  | zero => intro i pre hi; simp only [scanF]; omega
  | succ d ih =>
    intro i pre hi
    unfold scanF
    split
    · rename_i hlt
      split
      · simp only; omega
      · rename_i k t e ho
        have h1 := oneE_lt hlt ho
        simp only at h1
        split
        · simp only [List.length_append, List.length_cons, List.length_nil]; omega
        · rename_i j hb
          have h2 := blanksE_le h1.2 hb
          have := ih j (pre ++ [⟨k, t, i⟩]) h2.2
          simp only [List.length_append, List.length_cons, List.length_nil] at this
          omega
    · simp only; omega
theorem scanRef_len (l : List ByteArray) (s : ByteArray) : (scanRef l s).1.length ≤ s.size := by
  unfold scanRef
  split
  · simp
  · split
    · simp
    · have h : (scanE (kwL l) s).1.length ≤ s.size := by
        unfold scanE
        split
        · simp
        · rename_i j hb
          have h2 := blanksE_le (by omega) hb
          have := scanF_len (kwL l) s (s.size - j + 1) j [] h2.2
          unfold scanFrom
          simp only [List.length_nil] at this
          omega
      split
      · rename_i xs he
        rw [he] at h
        exact h
      · simp
end Go.Proofs.Ytmkfeanggmjhmaa.L
