/- Walks of sort: least. -/
import Derived.Test.YthfomoigaoffgaaGreatSo7
import Derived.Test.YthfomoigaoffgaaGreatSo3
import Derived.WalkLawsBesides
namespace Go.Proofs.YthfomoigaoffgaaGreat.So
open Go Go.RowKit Go.Shelf Go.Sort Go.Lib Go.Proofs.YthfomoigaoffgaaGreat.K Go.Proofs.YthfomoigaoffgaaGreat.G Go.Proofs.YthfomoigaoffgaaGreat.Ix Go.Proofs.YthfomoigaoffgaaGreat.O
set_option linter.unusedSimpArgs false
set_option linter.unusedVariables false

theorem collect_calls (S : Nat → Prop) (bv : Nat) (A : Option Addr) (c : Nat) (l : List ByteArray) (w : World) (hbv : w.cell? ⟨bv, 0, none⟩ = some (.slice A l.length c)) (hC : C str S w A l) (hl : l.length ≤ 1000000) :
    Calls Tryz.prog 78 #[.func (.func 80) #[] #[.pointer (some ⟨bv, 0, none⟩)]] w fun e w' => ∃ v, e = .returned v ∧ Mine str w.heap.size (fun _ => False) w' v l ∧ Below w.heap.size w w' := by
  have HA := Lib.hid (appendSeq_calls S bv A c l w hbv hC hl)
  clear hbv hC
  go_enter Tryz.func78, Tryz.ntmps78
  go_wp2_with fail
  refine HA.out.mono ?_
  rintro e w' ⟨v, rfl, hm, hb⟩
  obtain ⟨A, c, rfl, _⟩ := hm.form
  have HM := Lib.hid hm
  clear hm
  go_wp2
  go_ret
  exact ⟨_, rfl, HM.out, hb⟩

def cmpS (a b : ByteArray) : Int := if less a b then -1 else if less b a then 1 else 0
theorem cmpS_lt (a b : ByteArray) : ltOf cmpS a b = less a b := by
  unfold ltOf cmpS
  cases h : less a b with
  | true => rfl
  | false =>
    rw [if_neg (by decide)]
    cases less b a <;> rfl
theorem cmp1_calls (a b : ByteArray) (w : World) : Calls Tryz.prog 60 #[.string a, .string b] w fun e w' => e = .returned (.int .i64 (cmpS a b)) ∧ w = w' := by
  have h1 := str_lt a b
  have h2 := str_lt b a
  unfold cmpS
  cases hq : less a b with
  | true =>
    rw [hq] at h1
    go_enter Tryz.func60, Tryz.ntmps60
    go_wp2
    go_ret
    exact ⟨rfl, rfl⟩
  | false =>
    rw [hq] at h1
    cases hr : less b a with
    | true =>
      rw [hr] at h2
      have h3 : (a.toList == b.toList) = false := by rw [str_eq]; exact beq_eq_false_iff_ne.2 (fun e => less_ne hr e.symm)
      have h4 : (!(a.toList == b.toList)) = true := by rw [h3]; rfl
      go_enter Tryz.func60, Tryz.ntmps60
      go_wp2
      go_ret
      exact ⟨rfl, rfl⟩
    | false =>
      rw [hr] at h2
      have h3 : (a.toList == b.toList) = true := by rw [less_total hq hr]; exact beq_iff_eq.2 rfl
      go_enter Tryz.func60, Tryz.ntmps60
      go_wp2
      go_ret
      exact ⟨rfl, rfl⟩
theorem less_ntrans {a b c : ByteArray} (h : less a b = false) (k : less b c = false) : less a c = false := by
  cases hq : less a c with
  | false => rfl
  | true =>
    cases hb : less b a with
    | true => rw [less_trans hb hq] at k; exact absurd k (by decide)
    | false => rw [less_total h hb] at hq; rw [hq] at k; exact absurd k (by decide)
theorem swoS : SWO (ltOf cmpS) where
  irrefl x := by rw [cmpS_lt]; exact less_irrefl x
  trans x y z h1 h2 := by rw [cmpS_lt] at *; exact less_trans h1 h2
  ntrans x y z h1 h2 := by rw [cmpS_lt] at *; exact less_ntrans h1 h2

theorem mine_some {base : Nat} {S : Nat → Prop} {w : World} {v : Value} {xs : List ByteArray} (h : Mine str base S w v xs) (hne : xs ≠ []) : ∃ g o cap, v = .slice (some ⟨g, o, none⟩) xs.length cap ∧ base ≤ g ∧ 0 < cap ∧ cap ≤ maxLen := by
  obtain ⟨A, cap, rfl, h1, h2, h3⟩ := h
  have := List.length_pos_iff.2 hne
  rcases h3 with ⟨rfl, rfl⟩ | ⟨g, o, rfl, hg, _⟩
  · omega
  · exact ⟨g, o, cap, rfl, hg, by omega, h2⟩
def sortS (l : List ByteArray) : List ByteArray := l.mergeSort (fun x y => !(ltOf cmpS) y x)
theorem sortS_perm (l : List ByteArray) : (sortS l).Perm l := List.mergeSort_perm _ _
theorem sortS_asc (l : List ByteArray) : (sortS l).Pairwise (fun a b => less b a = false) := by
  have h := List.pairwise_mergeSort (le := fun x y => !(ltOf cmpS) y x) (fun a b c h1 h2 => by
    simp only [cmpS_lt, Bool.not_eq_true'] at *
    exact less_ntrans h2 h1) (fun a b => by
    simp only [cmpS_lt]
    cases hq : less b a with
    | false => rfl
    | true => rw [less_asymm hq]; rfl) l
  refine List.Pairwise.imp (fun {a b} hab => ?_) h
  simpa [cmpS_lt] using hab

/-- slices.SortFunc by the order of names, of a row of one's own -/
theorem sortFunc_mine {base g o cap : Nat} {l : List ByteArray} {w : World} (h : Mine str base (fun _ => False) w (.slice (some ⟨g, o, none⟩) l.length cap) l) (hl : l.length ≤ 1000000) :
    Calls Tryz.prog 79 #[.slice (some ⟨g, o, none⟩) l.length cap, .func (.func 60) #[] #[]] w fun e w' =>
      e = .returned (.tuple #[]) ∧ Mine str base (fun _ => False) w' (.slice (some ⟨g, o, none⟩) (sortS l).length cap) (sortS l) ∧ Chg (fun k => k = g) w w' := by
  obtain ⟨_, hle, hlt, hr, hf⟩ := mine_row h
  have hH := holds_rowS hr (fun j hj => hf j (by omega))
  have hcon := Tryz.slices_SortFunc_total Value.string (fun _ => rfl) cmpS swoS 60 #[] g o cap l.toArray w (enters_of Tryz.func60 (by kernel_rfl) rfl)
    (fun m os dk _ x y => (cmp1_calls x y _).mono (fun e w' ⟨he, hw⟩ => ⟨he, 0, #[], by rw [← hw, grow_empty]; rfl⟩)) hH hlt (by simp; omega) (fun x y h1 h2 => by rw [cmpS_lt] at h1 h2; exact less_total h1 h2)
  have hsz : l.toArray.size = l.length := by simp
  rw [hsz] at hcon
  refine hcon.mono ?_
  rintro e w' ⟨rfl, n, os, rfl⟩
  refine ⟨rfl, ?_, chg_sort Value.string w g o n _ os⟩
  have hd : (sortS l).toArray.size = l.toArray.size := by simp [sortS]
  have hh : Holds Value.string (sortWorld Value.string w g o n (sortS l).toArray os) g o (sortS l).toArray := by
    have h1 : Holds Value.string (Sort.ahead w n) g o l.toArray := hH
    exact holds_grow _ _ _ _ _ _ (by rw [size_putRow]; exact hlt) (holds_putRow _ _ _ _ _ _ h1 hd)
  exact mine_sort Value.string h n l.toArray (sortS l).toArray os hH hd (by simp) (by rw [(sortS_perm l).length_eq]; exact Nat.le_refl _) (rowS_holds hh)

/-- slices.SortedFunc over the values of a row that is not empty: sorted -/
theorem sortedFunc_calls (S : Nat → Prop) (bv : Nat) (A : Option Addr) (c : Nat) (l : List ByteArray) (w : World) (hbv : w.cell? ⟨bv, 0, none⟩ = some (.slice A l.length c)) (hC : C str S w A l) (hl : l.length ≤ 1000000) (hne : l ≠ []) :
    Calls Tryz.prog 58 #[.func (.func 80) #[] #[.pointer (some ⟨bv, 0, none⟩)], .func (.func 60) #[] #[]] w fun e w' =>
      ∃ g o cap, e = .returned (.slice (some ⟨g, o, none⟩) (sortS l).length cap) ∧ Mine str w.heap.size (fun _ => False) w' (.slice (some ⟨g, o, none⟩) (sortS l).length cap) (sortS l) ∧ Below w.heap.size w w' := by
  have HA := Lib.hid (collect_calls S bv A c l w hbv hC hl)
  clear hbv hC
  go_enter Tryz.func58, Tryz.ntmps58
  go_wp2_with fail
  refine HA.out.mono ?_
  rintro e w1 ⟨v, rfl, hm, hb⟩
  obtain ⟨g, o, cap, rfl, hg, _, _⟩ := mine_some hm hne
  have HS := Lib.hid (sortFunc_mine hm hl)
  clear hm
  go_wp2_with (go_at_call 79; refine HS.out.mono ?_; rintro e w2 ⟨rfl, hm2, hc2⟩)
  have hlen : (sortS l).length = l.length := (sortS_perm l).length_eq
  go_ret
  exact ⟨g, o, cap, by rw [hlen]; rfl, hm2, hb.trans (hc2.below hb.size (fun k hk => by omega))⟩

/-- slices.Compact of a sorted row -/
theorem compact_mine {base g o cap : Nat} {s l : List ByteArray} {w : World} (h : Mine str base (fun _ => False) w (.slice (some ⟨g, o, none⟩) l.length cap) l) (hl : l.length ≤ 1000000) (hp : l.Perm s) (hs : l.Pairwise (fun a b => less b a = false)) :
    Calls Tryz.prog 57 #[.slice (some ⟨g, o, none⟩) l.length cap] w fun e w' =>
      e = .returned (.slice (some ⟨g, o, none⟩) (setOf s).length cap) ∧ Mine str base (fun _ => False) w' (.slice (some ⟨g, o, none⟩) (setOf s).length cap) (setOf s) ∧ Chg (fun k => k = g) w w' := by
  obtain ⟨_, hle, hlt, hr, hf⟩ := mine_row h
  have hH := holds_bl hr (fun j hj => hf j (by omega))
  have hset := compact_set hp hs
  have hlen : (setOf s).length = (compact (l.map bl)).length := by rw [← hset, List.length_map]
  have hcon := Tryz.slices_Compact_string g o cap (l.map bl) w hH (by simp; omega) (by simp; omega)
  rw [List.length_map] at hcon
  rw [hlen]
  refine hcon.mono ?_
  rintro e w' ⟨rfl, q, rfl⟩
  have hcl : (compact (l.map bl)).length ≤ l.length := by have := compact_length_le (l.map bl); rwa [List.length_map] at this
  have hd : (compact (l.map bl) ++ List.replicate (l.length - (compact (l.map bl)).length) []).toArray.size = (l.map bl).toArray.size := by simp; omega
  have e1 : putRow encStr (Sort.ahead w q) g o (compact (l.map bl) ++ List.replicate (l.length - (compact (l.map bl)).length) []).toArray = grow (putRow encStr (Sort.ahead w q) g o (compact (l.map bl) ++ List.replicate (l.length - (compact (l.map bl)).length) []).toArray) #[] := (grow_empty _).symm
  rw [e1]
  refine ⟨rfl, ?_, chg_sort encStr w g o q _ #[]⟩
  have h1 : Holds encStr (Sort.ahead w q) g o (l.map bl).toArray := hH
  have hh := holds_putRow _ _ _ _ _ _ h1 hd
  have hrow := rowS_holds_bl hh
  rw [List.map_append, hset] at hrow
  have hfin := mine_sort encStr (ys := setOf s) h q (l.map bl).toArray _ #[] hH hd (by simp) (by omega) (by
    rw [grow_empty]
    exact fun j x hj => hrow j x (by rw [List.getElem?_append_left (List.getElem?_eq_some_iff.1 hj).1]; exact hj))
  rw [hlen] at hfin
  exact hfin
theorem own_read {w : World} {base n : Nat} {v : Value} {l : List ByteArray} (h : w.ownsRow base 9 1 v n (l.map Value.string)) (hm : l.length ≤ maxLen) : ∃ A c, v = .slice A l.length c ∧ l.length ≤ c ∧ C str (fun k => base ≤ k) w A l := by
  have hn := h.1
  rw [List.length_map, Nat.mul_one] at hn
  subst hn
  rcases h.2 with ⟨rfl, h0⟩ | ⟨g, cap, cur, rfl, hg, hh, hc, _⟩
  · have : l = [] := List.eq_nil_of_length_eq_zero h0
    subst this
    exact ⟨none, 0, rfl, Nat.le_refl _, C.nil ..⟩
  · refine ⟨_, cap, rfl, hc, hm, fun _ => ⟨g, 0, rfl, hg, (Array.getElem?_eq_some_iff.1 hh).1, fun j x hj => ⟨_, rfl, fun i u hu => ?_⟩⟩⟩
    have hi : i < 1 := (List.getElem?_eq_some_iff.1 hu).1
    obtain rfl : i = 0 := by omega
    cases hu
    have e : str.sz = 1 := rfl
    have hj' := (List.getElem?_eq_some_iff.1 hj).1
    rw [e, Nat.mul_one, Nat.add_zero, Nat.zero_add, h.cellAt j (by omega), List.getElem?_map, hj]
    rfl
/-- slices.Clone of a row -/
theorem clone_calls {S : Nat → Prop} {g o c : Nat} {l : List ByteArray} {w : World} (h : C str S w (some ⟨g, o, none⟩) l) (hl : l.length ≤ 1000000) :
    Calls Tryz.prog 61 #[.slice (some ⟨g, o, none⟩) l.length c] w fun e w' => ∃ A c', e = .returned (.slice A l.length c') ∧ l.length ≤ c' ∧ C str (fun k => w.heap.size ≤ k) w' A l ∧ Below w.heap.size w w' := by
  refine (Tryz.slices_Clone_string g o l.length c l w (Nat.le_refl _) (by omega) (fun j hj => ?_)).mono ?_
  · obtain ⟨b', o', e, _, _, hc⟩ := str_at h j hj
    injection e with e
    injection e with e1 e2 _
    subst e1; subst e2
    rw [hc]
    simp [List.getD, List.getElem?_eq_getElem hj]
  · rintro e w' ⟨v', rfl, ho, _, hb⟩
    rw [List.take_length] at ho
    obtain ⟨A, c', rfl, h1, h2⟩ := own_read ho h.len
    exact ⟨A, c', rfl, h1, h2, hb⟩
end Go.Proofs.YthfomoigaoffgaaGreat.So
