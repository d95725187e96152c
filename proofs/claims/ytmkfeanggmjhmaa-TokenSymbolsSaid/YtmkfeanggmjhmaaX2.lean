/- The printed reference of texts exchanged is the plain one. -/
import Derived.Test.YtmkfeanggmjhmaaPTokenSymbolsx1
import Derived.Test.YtmkfeanggmjhmaaX1
import Derived.Test.YtmkfeanggmjhmaaM
import Derived.Test.YtmkfeanggmjhmaaE
import Derived.Lib.Strings
namespace Go.Proofs.Ytmkfeanggmjhmaa.X
set_option linter.unusedSimpArgs false
set_option linter.unusedVariables false
open Go Go.RowKit Go.Proofs.YtmkfeanggmjhmaaW.PrintWords Go.Proofs.YtmkfeanggmjhmaaW.PrintLast Go.Proofs.YtmkfeanggmjhmaaW.PrintMore
open Go.Proofs.Ytmkfeanggmjhmaa.M Go.Proofs.Ytmkfeanggmjhmaa.E Go.Proofs.Ytmkfeanggmjhmaa.PTokenSymbols

theorem starts_eq (s : ByteArray) (hs : s.size ≤ 1000000000000) (i : Nat) (hi : i ≤ s.size) (t : ByteArray) (ht : t.size ≤ 1000000000000) : triforiumref14_starts.f s i t = some (preAt s i t.data.toList) := by
  unfold triforiumref14_starts.f
  have hw : wrap64 ((i : Int) + (t.size : Int)) = ((i + t.size : Nat) : Int) := w64 (by omega) (by omega)
  rw [hw]
  by_cases hle : i + t.size ≤ s.size
  · rw [if_pos (by omega), if_pos (by omega), if_pos (by omega), Int.toNat_natCast, Int.toNat_natCast]
    congr 1
    unfold preAt
    rw [Bool.eq_iff_iff, beq_iff_eq, List.isPrefixOf_iff_prefix, Lib.toList_data, Lib.toList_data]
    have e : (s.extract i (i + t.size)).data.toList = (s.data.toList.drop i).take t.size := by
      rw [ByteArray.data_extract, Array.toList_extract, List.extract_eq_take_drop]
      congr 1
      omega
    rw [e]
    constructor
    · intro h; rw [← h]; exact List.take_prefix _ _
    · intro h
      have := List.prefix_iff_eq_take.1 h
      rw [this]
      rfl
  · rw [if_neg (by omega)]
    congr 1
    symm
    rw [Bool.eq_false_iff]
    intro h
    have := preAt_le h hi
    have : t.data.toList.length = t.size := rfl
    omega

/-- a flat list of pairs: at f the one text of each pair, at t the other one -/
structure Flat (L : List ByteArray) (f t : Nat) (Q : Pairs) : Prop where
  len : L.length = 2 * Q.length
  few : Q.length ≤ 100
  small : f ≤ 1 ∧ t ≤ 1
  one : ∀ m (h : m < Q.length), (L.getD (2 * m + f) ByteArray.empty).data.toList = (Q[m]'h).1
  two : ∀ m (h : m < Q.length), (L.getD (2 * m + t) ByteArray.empty).data.toList = (Q[m]'h).2
  ok : Ok Q
  short : ∀ p ∈ Q, p.1.length ≤ 20 ∧ p.2.length ≤ 20
theorem rd_at (L : List ByteArray) (j : Nat) : rdOf ByteArray.empty L (j : Int) = L.getD j ByteArray.empty := by unfold rdOf; simp
theorem size_list (x : ByteArray) : x.size = x.data.toList.length := rfl
theorem arr_app (out : List UInt8) (x : ByteArray) : (⟨out.toArray⟩ : ByteArray) ++ x = ⟨(out ++ x.data.toList).toArray⟩ := by
  apply ByteArray.ext
  apply Array.ext'
  simp
theorem arr_size (out : List UInt8) : (⟨out.toArray⟩ : ByteArray).size = out.length := by simp [ByteArray.size]
theorem one_ext (s : ByteArray) (i : Nat) (h : i < s.size) : (s.extract i (i + 1)).data.toList = [s.data.toList[i]'h] := by
  rw [ByteArray.data_extract, Array.toList_extract, List.extract_eq_take_drop, Nat.add_sub_cancel_left]
  have hl : i < s.data.toList.length := h
  rw [List.drop_eq_getElem_cons hl, List.take_succ_cons, List.take_zero]

theorem l1_loop {L : List ByteArray} {f t : Nat} {Q : Pairs} (F : Flat L f t Q) (s : ByteArray) (hs : s.size ≤ 1000000000) (i : Nat) (hi : i < s.size) (out : List UInt8) (ho : out.length ≤ 20 * i) (R : ByteArray)
    (hhit : ∀ p, hit Q (s.data.toList.drop i) = some p → Evt (fun k => triforiumref14_replaced.l0 k s f t L ⟨(out ++ p.2).toArray⟩ ((i + p.1.length : Nat) : Int)) R)
    (hmiss : hit Q (s.data.toList.drop i) = none → Evt (fun k => triforiumref14_replaced.l0 k s f t L ⟨(out ++ [s.data.toList[i]'hi]).toArray⟩ ((i + 1 : Nat) : Int)) R) :
    ∀ d m : Nat, Q.length - m ≤ d → m ≤ Q.length → (Q.drop m).find? (fun p => p.1.isPrefixOf (s.data.toList.drop i)) = hit Q (s.data.toList.drop i) → Evt (fun k => triforiumref14_replaced.l1 k s f t L ⟨out.toArray⟩ i ((2 * m : Nat) : Int)) R := by
  have hL := F.len
  have hQ := F.few
  have hft := F.small
  have hend : (Q.drop Q.length).find? (fun p => p.1.isPrefixOf (s.data.toList.drop i)) = hit Q (s.data.toList.drop i) → Evt (fun k => triforiumref14_replaced.l1 k s f t L ⟨out.toArray⟩ i ((2 * Q.length : Nat) : Int)) R := by
    intro h
    rw [List.drop_length] at h
    have hm := hmiss h.symm
    have e1 : wrap64 ((i : Int) + 1) = ((i + 1 : Nat) : Int) := w64 (by omega) (by omega)
    refine Evt.succ (fun k => rfl) ?_
    refine Evt.ff (by clear e1; omega) ?_
    simp only [e1]
    refine Evt.tt (by clear e1; omega) (Evt.tt (by clear e1; omega) (Evt.tt (by clear e1; omega) ?_))
    rw [Int.toNat_natCast, Int.toNat_natCast, arr_size, size_list, one_ext s i hi]
    refine Evt.tt (by clear e1; simp only [List.length_cons, List.length_nil]; omega) ?_
    rw [arr_app, one_ext s i hi]
    exact hm
  intro d
  induction d with
  | zero =>
    intro m hd hm h
    obtain rfl : m = Q.length := by omega
    exact hend h
  | succ d ih =>
    intro m hd hm h
    by_cases hlt : m < Q.length
    · rw [List.drop_eq_getElem_cons hlt, List.find?_cons] at h
      have hf := F.one m hlt
      have ht := F.two m hlt
      have hsh := F.short _ (List.getElem_mem hlt)
      have hok := F.ok _ (List.getElem_mem hlt)
      generalize Q[m]'hlt = p at h hf ht hsh hok
      have e1 : wrap64 (((2 * m : Nat) : Int) + (f : Int)) = ((2 * m + f : Nat) : Int) := w64 (by omega) (by omega)
      have e2 : wrap64 (((2 * m : Nat) : Int) + (t : Int)) = ((2 * m + t : Nat) : Int) := w64 (by clear e1; omega) (by clear e1; omega)
      have hsz1 : (L.getD (2 * m + f) ByteArray.empty).size = p.1.length := by rw [size_list, hf]
      have hsz2 : (L.getD (2 * m + t) ByteArray.empty).size = p.2.length := by rw [size_list, ht]
      refine Evt.succ (fun k => rfl) ?_
      refine Evt.tt (by omega) (Evt.tt (by rw [e1]; clear e1 e2; omega) (Evt.tt (by rw [e1]; clear e1 e2; omega) ?_))
      rw [e1]
      rw [rd_at]
      refine Evt.bind (Evt.of _ (starts_eq s (by omega) i (by omega) _ (by rw [hsz1]; omega))) ?_
      have hpe : preAt s i (L.getD (2 * m + f) ByteArray.empty).data.toList = p.1.isPrefixOf (s.data.toList.drop i) := by rw [hf]; rfl
      rw [hpe]
      by_cases hp : p.1.isPrefixOf (s.data.toList.drop i) = true
      · rw [hp] at h
        change some p = _ at h
        have hh := hhit p h.symm
        refine Evt.tt hp (Evt.tt (by rw [e2]; clear e1 e2; omega) (Evt.tt (by rw [e2]; clear e1 e2; omega) ?_))
        rw [e2]
        clear e1 e2
        rw [rd_at, hsz2, arr_size]
        refine Evt.tt (by omega) ?_
        rw [arr_app, ht, hsz1, w64 (x := (i : Int) + (p.1.length : Int)) (by omega) (by omega)]
        exact hh
      · rw [Bool.eq_false_iff.2 hp] at h
        change List.find? _ _ = _ at h
        refine Evt.ff hp ?_
        clear e1 e2
        rw [w64 (x := ((2 * m : Nat) : Int) + 2) (by omega) (by omega)]
        exact ih (m + 1) (by omega) (by omega) h
    · obtain rfl : m = Q.length := by omega
      exact hend h

theorem l0_loop {L : List ByteArray} {f t : Nat} {Q : Pairs} (F : Flat L f t Q) (s : ByteArray) (hs : s.size ≤ 1000000000) : ∀ (d i : Nat) (out : List UInt8), s.size - i ≤ d → i ≤ s.size → out.length ≤ 20 * i →
    Evt (fun k => triforiumref14_replaced.l0 k s f t L ⟨out.toArray⟩ i) ⟨(out ++ exE Q (s.data.toList.drop i)).toArray⟩ := by
  intro d
  induction d using Nat.strongRecOn with
  | _ d ih =>
    intro i out hd hi ho
    by_cases hlt : i < s.size
    · have hl : i < s.data.toList.length := hlt
      refine Evt.succ (fun k => rfl) ?_
      refine Evt.tt (by omega) ?_
      refine l1_loop F s hs i hlt out ho _ ?_ ?_ Q.length 0 (by omega) (by omega) rfl
      · intro p hp
        obtain ⟨hm, r, hr⟩ := hit_mem hp
        have hsh := F.short p hm
        have hok := F.ok p hm
        have hlen : i + p.1.length ≤ s.size := by
          have := congrArg List.length hr
          rw [List.length_drop, List.length_append] at this
          have e : s.data.toList.length = s.size := rfl
          omega
        have hne : s.data.toList.drop i ≠ [] := by
          intro e
          have := congrArg List.length e
          rw [List.length_drop] at this
          have e2 : s.data.toList.length = s.size := rfl
          simp at this
          omega
        rw [exE_hit F.ok hne hp, List.drop_drop]
        have := ih (s.size - (i + p.1.length)) (by omega) (i + p.1.length) (out ++ p.2) (Nat.le_refl _) hlen (by rw [List.length_append]; omega)
        rw [List.append_assoc] at this
        exact this
      · intro hp
        have := ih (s.size - (i + 1)) (by omega) (i + 1) (out ++ [s.data.toList[i]'hlt]) (Nat.le_refl _) (by omega) (by rw [List.length_append, List.length_cons, List.length_nil]; omega)
        rw [List.append_assoc] at this
        rw [List.drop_eq_getElem_cons hl] at hp ⊢
        rw [exE_miss hp]
        exact this
    · obtain rfl : i = s.size := by omega
      refine Evt.succ (fun k => rfl) ?_
      refine (Evt.ff (by omega) (Evt.const _)).eq ?_
      rw [show s.data.toList.drop s.size = [] from List.drop_eq_nil_of_le (Nat.le_refl _), exE_nil, List.append_nil]

theorem flat_signs : ∃ L, triforiumref14_pairs.f = some L ∧ Flat L 0 1 signPairs ∧ Flat L 1 0 (turned signPairs) := by
  refine ⟨_, rfl, ⟨rfl, by decide, by decide, ?_, ?_, okSigns, by decide⟩, ⟨rfl, by decide, by decide, ?_, ?_, okTurned, by decide⟩⟩ <;> decide

def symbolsE (s : ByteArray) : ByteArray := ⟨(exE signPairs s.data.toList).toArray⟩
def plainE (s : ByteArray) : ByteArray := ⟨(exE (turned signPairs) s.data.toList).toArray⟩
theorem Symbols_ev (s : ByteArray) (hs : s.size ≤ 1000000000) : Evt (fun k => triforiumref14_Symbols.f k s) (symbolsE s) := by
  obtain ⟨L, hL, h1, h2⟩ := flat_signs
  unfold triforiumref14_Symbols.f triforiumref14_replaced.f
  rw [hL]
  refine Evt.bind (r := symbolsE s) ?_ (Evt.const _)
  exact l0_loop h1 s hs _ 0 [] (Nat.le_refl _) (by omega) (by simp)
theorem Plain_ev (s : ByteArray) (hs : s.size ≤ 1000000000) : Evt (fun k => triforiumref14_Plain.f k s) (plainE s) := by
  obtain ⟨L, hL, h1, h2⟩ := flat_signs
  unfold triforiumref14_Plain.f triforiumref14_replaced.f
  rw [hL]
  refine Evt.bind (r := plainE s) ?_ (Evt.const _)
  exact l0_loop h2 s hs _ 0 [] (Nat.le_refl _) (by omega) (by simp)
theorem plain_of_symbols (s : ByteArray) : plainE (symbolsE s) = plainE s := by
  unfold plainE symbolsE
  simp only
  rw [plain_symbols _ _ (Nat.le_refl _)]
end Go.Proofs.Ytmkfeanggmjhmaa.X
