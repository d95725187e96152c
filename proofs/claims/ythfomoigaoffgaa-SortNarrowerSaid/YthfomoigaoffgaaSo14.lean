/- Walks of the laws of sort: Equal, Clone and Reverse of rows; awake. -/
import Derived.Test.YthfomoigaoffgaaSo13
namespace Go.Proofs.Ythfomoigaoffgaa.G
open Go Go.RowKit Go.Proofs.Ythfomoigaoffgaa.K
/-! ### a row of elements that is laid out in one block -/
def AllK {α : Type} (d : Rd α) (S : Nat → Prop) (w : World) : List α → List (List Value) → Prop
  | [], [] => True
  | x :: xs, c :: cs => d.K S w x c ∧ AllK d S w xs cs
  | _, _ => False
theorem flat_at {α : Type} {d : Rd α} {S : Nat → Prop} {w : World} : ∀ {xs : List α} {css : List (List Value)}, AllK d S w xs css → ∀ j x, xs[j]? = some x → ∃ cs, d.K S w x cs ∧ ∀ i u, cs[i]? = some u → css.flatten[j * d.sz + i]? = some u
  | [], _, _ => fun j x hj => by simp at hj
  | _ :: _, [], h => h.elim
  | x0 :: xs, c0 :: css, ⟨h0, hr⟩ => fun j x hj => by
    have hl := d.len h0
    cases j with
    | zero =>
      cases hj
      exact ⟨c0, h0, fun i u hu => by
        rw [List.flatten_cons, Nat.zero_mul, Nat.zero_add, List.getElem?_append_left (List.getElem?_eq_some_iff.1 hu).1]
        exact hu⟩
    | succ j =>
      obtain ⟨cs, hk, hc⟩ := flat_at hr j x (by simpa using hj)
      exact ⟨cs, hk, fun i u hu => by
        rw [List.flatten_cons, List.getElem?_append_right (by rw [hl, Nat.add_mul]; omega), hl, show (j + 1) * d.sz + i - d.sz = j * d.sz + i by rw [Nat.add_mul]; omega]
        exact hc i u hu⟩
theorem C.lit {α : Type} {d : Rd α} {S : Nat → Prop} {w : World} {b : Nat} {ty : TypeId} {fz : Nat × Nat} {xs : List α} (css : List (List Value)) (h : AllK d S w xs css) (hb : w.heap[b]? = some (.cells css.flatten.toArray ty fz)) (hS : S b) (hl : xs.length ≤ maxLen) : C d S w (some ⟨b, 0, none⟩) xs :=
  ⟨hl, fun _ => ⟨b, 0, rfl, hS, (Array.getElem?_eq_some_iff.1 hb).1, fun j x hj => by
    obtain ⟨cs, hk, hc⟩ := flat_at h j x hj
    exact ⟨cs, hk, fun i u hu => by
      have := hc i u hu
      simp [World.cell?, hb, this]⟩⟩⟩
end Go.Proofs.Ythfomoigaoffgaa.G
namespace Go.Proofs.Ythfomoigaoffgaa.So
open Go Go.RowKit Go.Shelf Go.Sort Go.Proofs.Ythfomoigaoffgaa.K Go.Proofs.Ythfomoigaoffgaa.G Go.Proofs.Ythfomoigaoffgaa.Ix Go.Proofs.Ythfomoigaoffgaa.O
set_option linter.unusedSimpArgs false
set_option linter.unusedVariables false

theorem str_cells {S : Nat → Prop} {w : World} {b o : Nat} {l : List ByteArray} (h : C str S w (some ⟨b, o, none⟩) l) : ∀ j, j < l.length → w.cell? ⟨b, o + j, none⟩ = some (.string (l.getD j ByteArray.empty)) := fun j hj => by
  obtain ⟨b', o', e, _, _, hc⟩ := str_at h j hj
  simp only [Option.some.injEq, Addr.mk.injEq, and_true] at e
  obtain ⟨rfl, rfl⟩ := e
  rw [hc]
  simp [List.getD_eq_getElem?_getD, List.getElem?_eq_getElem hj]
theorem equal_calls (S S' : Nat → Prop) (A1 A2 : Option Addr) (c1 c2 : Nat) (xs ys : List ByteArray) (w : World) (hx : C str S w A1 xs) (hy : C str S' w A2 ys) :
    Calls Try.prog 15 #[.slice A1 xs.length c1, .slice A2 ys.length c2] w fun e w' => e = .returned (.bool (decide (xs = ys))) ∧ Below w.heap.size w w' := by
  have lx : xs.length ≤ 9223372036854775807 := hx.len
  have ly : ys.length ≤ 9223372036854775807 := hy.len
  by_cases hx0 : xs = []
  · subst hx0
    refine (Try.slices_Equal_string_empty A1 A2 c1 ys.length c2 w ly).mono ?_
    rintro e w' ⟨rfl, rfl⟩
    exact ⟨by
      have : decide (ys.length = 0) = decide (([] : List ByteArray) = ys) := by cases ys <;> simp
      rw [this], Below.refl _ _⟩
  · by_cases hn : xs.length = ys.length
    · have hy0 : ys ≠ [] := fun e => hx0 (List.eq_nil_of_length_eq_zero (by rw [hn, e]; rfl))
      obtain ⟨b1, o1, rfl, _⟩ := hx.2 hx0
      obtain ⟨b2, o2, rfl, _⟩ := hy.2 hy0
      refine (Try.slices_Equal_string b1 o1 xs.length c1 b2 o2 ys.length c2 xs ys w (Nat.le_refl _) (Nat.le_refl _) lx ly (str_cells hx) (str_cells hy)).mono ?_
      rintro e w' ⟨rfl, q, rfl⟩
      exact ⟨by rw [List.take_length, List.take_length], below_drewN (Below.refl _ w) q⟩
    · refine (Try.slices_Equal_string_lens A1 A2 xs.length c1 ys.length c2 w hn).mono ?_
      rintro e w' ⟨rfl, rfl⟩
      exact ⟨by rw [decide_eq_false (fun e => hn (by rw [e]))], Below.refl _ _⟩
theorem mine_of_own {w : World} {base n : Nat} {v : Value} {l : List ByteArray} (h : w.ownsRow base 9 1 v n (l.map Value.string)) : Mine str base (fun _ => False) w v l := by
  have hn := h.1
  rw [List.length_map, Nat.mul_one] at hn
  subst hn
  have h' := h
  rcases h.2 with ⟨rfl, h0⟩ | ⟨g, cap, cur, rfl, hg, hh, hc, hcm, hcs, _⟩
  · have : l = [] := List.eq_nil_of_length_eq_zero h0
    subst this
    exact Mine.nil ..
  · have e1 : str.sz = 1 := rfl
    refine ⟨_, cap, rfl, hc, hcm, .inr ⟨g, 0, rfl, hg, (Array.getElem?_eq_some_iff.1 hh).1, fun j hj => ?_, scalar_cells fun j x hj => ?_⟩⟩
    · rw [e1] at hj
      refine ⟨?_, by simp [World.frozen?, hh]⟩
      have : w.cell? ⟨g, 0 + j, none⟩ = cur[j]? := by simp [World.cell?, hh]
      rw [this, Array.getElem?_eq_getElem (by omega)]
      rfl
    · have hj' := (List.getElem?_eq_some_iff.1 hj).1
      rw [Nat.zero_add, h'.cellAt j (by omega), List.getElem?_map, hj]
      rfl
theorem clone_any {S : Nat → Prop} {A : Option Addr} {c : Nat} {l : List ByteArray} {w : World} (h : C str S w A l) (hl : l.length ≤ 1000000) :
    Calls Try.prog 16 #[.slice A l.length c] w fun e w' => ∃ A' n' c', e = .returned (.slice A' n' c') ∧ Mine str w.heap.size (fun _ => False) w' (.slice A' n' c') l ∧ Below w.heap.size w w' := by
  by_cases hl0 : l = []
  · subst hl0
    cases A with
    | none =>
      refine (Try.slices_Clone_string_nil 0 c w).mono ?_
      rintro e w' ⟨rfl, rfl⟩
      exact ⟨none, 0, 0, rfl, Mine.nil .., Below.refl _ _⟩
    | some a =>
      refine (Try.slices_Clone_string_zero a c w).mono ?_
      rintro e w' ⟨v', rfl, ho, _, hb⟩
      have hm := mine_of_own (l := []) ho
      obtain ⟨A', c', rfl, _⟩ := hm.form
      exact ⟨A', _, c', rfl, hm, hb⟩
  · obtain ⟨b, o, rfl, _⟩ := h.2 hl0
    refine (Try.slices_Clone_string b o l.length c l w (Nat.le_refl _) (by omega) (str_cells h)).mono ?_
    rintro e w' ⟨v', rfl, ho, _, hb⟩
    rw [List.take_length] at ho
    have hm := mine_of_own ho
    obtain ⟨A', c', rfl, _⟩ := hm.form
    exact ⟨A', _, c', rfl, hm, hb⟩
theorem reverse_any {base : Nat} {A : Option Addr} {n c : Nat} {l : List ByteArray} {w : World} (h : Mine str base (fun _ => False) w (.slice A n c) l) :
    Calls Try.prog 17 #[.slice A n c] w fun e w' => e = .returned (.tuple #[]) ∧ Mine str base (fun _ => False) w' (.slice A n c) l.reverse ∧ Below base w w' := by
  by_cases hl0 : l = []
  · subst hl0
    obtain ⟨rfl, _⟩ := h.read
    refine (Try.slices_Reverse_string_empty A c w).mono ?_
    rintro e w' ⟨rfl, rfl⟩
    exact ⟨rfl, h, Below.refl _ _⟩
  · obtain ⟨g, o, cap, e, hg, hc0, hcm⟩ := mine_some h hl0
    injection e with e1 e2 e3
    subst e1; subst e2; subst e3
    obtain ⟨_, hle, hlt, hr, hf⟩ := mine_row h
    have hH := holds_bl hr (fun j hj => hf j (by omega))
    have hml : l.length ≤ 9223372036854775807 := h.len
    have hcon := Try.slices_Reverse_string g o c (l.map bl) w hH (by rw [List.length_map]; exact hml)
    rw [List.length_map] at hcon
    refine hcon.mono ?_
    rintro e w' ⟨rfl, q, rfl⟩
    have e1 : putRow encStr (Sort.ahead w q) g o (l.map bl).reverse.toArray = grow (putRow encStr (Sort.ahead w q) g o (l.map bl).reverse.toArray) #[] := (grow_empty _).symm
    rw [e1]
    have hd : (l.map bl).reverse.toArray.size = (l.map bl).toArray.size := by simp
    have h1 : Holds encStr (Sort.ahead w q) g o (l.map bl).toArray := hH
    have hh := holds_putRow _ _ _ _ _ _ h1 hd
    have hrow := rowS_holds_bl hh
    rw [List.map_reverse, List.map_map, show lb ∘ bl = id from funext lb_bl, List.map_id] at hrow
    have hfin := mine_sort encStr (ys := l.reverse) h q (l.map bl).toArray _ #[] hH hd (by simp) (by simp) (by rw [grow_empty]; exact hrow)
    rw [List.length_reverse] at hfin
    exact ⟨rfl, hfin, (chg_sort encStr w g o q _ #[]).below (by omega) (fun k hk => by omega)⟩

def sA : ByteArray := ⟨#[97]⟩
def sB : ByteArray := ⟨#[98]⟩
def sC : ByteArray := ⟨#[99]⟩
def wkT : Thy := ⟨[(sA, []), (sB, []), (sC, [sA, sB])], [], []⟩
theorem wk_norm : normB wkT.cls [sB, sC, sA] = ([sC], 0) := by decide +kernel
def wkR (b1 : Nat) : Raw := ⟨⟨#[]⟩, some ⟨b1, 0, none⟩, 3, none, 0, none, 0, none, 0, 0, none, 0, 0, none, 0, 0⟩
theorem wk_thy (b0 b1 : Nat) (W : World) (h0 : W.heap[b0]? = some (.cells #[.string ⟨#[97]⟩, .string ⟨#[98]⟩] 9 (0, 0)))
    (h1 : W.heap[b1]? = some (.cells #[.string ⟨#[97]⟩, .slice none 0 0, .string ⟨#[98]⟩, .slice none 0 0, .string ⟨#[99]⟩, .slice (some ⟨b0, 0, none⟩) 2 2] 56 (0, 0))) : ThyR (fun _ => True) W (wkR b1) wkT := by
  have hs : C str (fun _ => True) W (some ⟨b0, 0, none⟩) [sA, sB] := C.lit [[.string sA], [.string sB]] ⟨rfl, rfl, trivial⟩ h0 trivial (by decide)
  have hn : C str (fun _ => True) W none [] := C.nil ..
  have hc : C kCl (fun _ => True) W (some ⟨b1, 0, none⟩) wkT.cls := C.lit [[.string sA, .slice none 0 0], [.string sB, .slice none 0 0], [.string sC, .slice (some ⟨b0, 0, none⟩) 2 2]]
    ⟨⟨[.string sA], [.slice none 0 0], rfl, rfl, none, 0, rfl, Nat.le_refl _, hn⟩, ⟨[.string sB], [.slice none 0 0], rfl, rfl, none, 0, rfl, Nat.le_refl _, hn⟩, ⟨[.string sC], [.slice (some ⟨b0, 0, none⟩) 2 2], rfl, rfl, _, 2, rfl, Nat.le_refl _, hs⟩, trivial⟩ h1 trivial (by decide)
  exact ⟨hc, Nat.le_refl _, C.nil .., Nat.le_refl _, C.nil .., Nat.le_refl _, by decide +kernel⟩
theorem wk_calls (b0 b1 b3 : Nat) (W : World) (h0 : W.heap[b0]? = some (.cells #[.string ⟨#[97]⟩, .string ⟨#[98]⟩] 9 (0, 0)))
    (h1 : W.heap[b1]? = some (.cells #[.string ⟨#[97]⟩, .slice none 0 0, .string ⟨#[98]⟩, .slice none 0 0, .string ⟨#[99]⟩, .slice (some ⟨b0, 0, none⟩) 2 2] 56 (0, 0)))
    (h3 : W.heap[b3]? = some (.cells #[.string ⟨#[98]⟩, .string ⟨#[99]⟩, .string ⟨#[97]⟩] 9 (0, 0))) :
    Calls Try.prog 11 #[.agg #[.string ⟨#[]⟩, .slice (some ⟨b1, 0, none⟩) 3 3, .slice none 0 0, .slice none 0 0, .slice none 0 0, .slice none 0 0, .slice none 0 0], .slice (some ⟨b3, 0, none⟩) 3 3] W fun e w' =>
      ∃ A n c, e = .returned (.tuple #[.slice A n c, .int .i64 0]) ∧ C str (fun _ => True) w' A [sC] ∧ n = 1 ∧ Below W.heap.size W w' := by
  have hs : C str (fun _ => True) W (some ⟨b3, 0, none⟩) [sB, sC, sA] := C.lit [[.string sB], [.string sC], [.string sA]] ⟨rfl, rfl, rfl, trivial⟩ h3 trivial (by decide)
  have := normal_calls (fun _ => True) (fun _ => True) (wkR b1) wkT (some ⟨b3, 0, none⟩) 3 [sB, sC, sA] W (wk_thy b0 b1 W h0 h1) hs (Nat.le_refl _) (by decide) (by decide +kernel) (by decide)
  rw [wk_norm] at this
  refine this.mono ?_
  rintro e w' ⟨v, rfl, hm, hb⟩
  obtain ⟨A, c, rfl, _⟩ := hm.form
  exact ⟨A, _, c, rfl, hm.read.2.2.mono (fun _ _ => trivial), rfl, hb⟩
theorem wk_eq (A1 A2 : Option Addr) (c1 c2 : Nat) (w : World) (hx : C str (fun _ => True) w A1 [sC]) (hy : C str (fun _ => True) w A2 [sC]) :
    Calls Try.prog 15 #[.slice A1 1 c1, .slice A2 1 c2] w fun e w' => e = .returned (.bool true) ∧ Below w.heap.size w w' := equal_calls _ _ A1 A2 c1 c2 [sC] [sC] w hx hy
set_option maxRecDepth 100000 in
set_option maxHeartbeats 4000000 in
theorem awake_calls (w : World) : Calls Try.prog 10 #[] w fun e w' => e = .returned (.bool true) ∧ Below w.heap.size w w' := by
  have HI := Lib.hid (fun s w hs => IsName_calls s w hs)
  go_enter Try.func10, Try.ntmps10
  go_wp2_with fail
  refine (wk_calls w.heap.size (w.heap.size + 1) (w.heap.size + 1 + 1 + 1) _ ?_ ?_ ?_).mono ?_
  · exact (Below.heap_alloc _ _ _ (by simp <;> omega)).trans ((Below.heap_alloc _ _ _ (by simp <;> omega)).trans ((Below.heap_alloc _ _ _ (by simp)).trans (World.alloc_heap_new w _)))
  · refine (Below.heap_alloc _ _ _ (by simp)).trans ((Below.heap_alloc _ _ _ (by simp)).trans ?_)
    have := World.alloc_heap_new (w.alloc (Obj.cells #[Value.string { data := #[97] }, Value.string { data := #[98] }] 9)) (.cells #[.string ⟨#[97]⟩, .slice none 0 0, .string ⟨#[98]⟩, .slice none 0 0, .string ⟨#[99]⟩, .slice (some ⟨w.heap.size, 0, none⟩) 2 2] 56)
    rwa [World.size_alloc] at this
  · refine (congrArg (fun k => (World.heap _)[k]?) ?_).trans (World.alloc_heap_new _ _)
    simp
  rintro e w2 ⟨A, n, c, rfl, hC, rfl, hb⟩
  have HC := Lib.hid hC
  have HB := Lib.hid (((((Below.refl w.heap.size w).alloc (Nat.le_refl _) _).alloc (by simp) _).alloc (by simp; omega) _).alloc (by simp; omega) _ |>.trans (hb.mono (by simp; omega)))
  clear hC hb
  go_wp2_with fail
  refine (wk_eq _ _ _ _ _ (HC.out.below ((Below.refl _ _).alloc (Nat.le_refl _) _)) (C.lit [[.string sC]] ⟨rfl, trivial⟩ (World.alloc_heap_new w2 _) trivial (by decide))).mono ?_
  rintro e w3 ⟨rfl, hb3⟩
  have HB3 := Lib.hid (HB.out.trans (((Below.refl _ _).alloc (Nat.le_refl _) _).trans (hb3.mono (by simp)) |>.mono HB.out.size))
  clear hb3
  have HN1 := Lib.hid (HI.out ⟨#[120, 39, 49, 46, 121]⟩ w3 (by decide))
  rw [show nameB ⟨#[120, 39, 49, 46, 121]⟩ = true by decide +kernel] at HN1
  go_wp2_with fail
  refine HN1.out.mono ?_
  rintro e w4 ⟨rfl, hb4⟩
  have HB4 := Lib.hid (HB3.out.trans (hb4.mono HB3.out.size))
  clear hb4
  have HN2 := Lib.hid (HI.out ⟨#[49, 120]⟩ w4 (by decide))
  rw [show nameB ⟨#[49, 120]⟩ = false by decide +kernel] at HN2
  go_wp2_with fail
  refine HN2.out.mono ?_
  rintro e w5 ⟨rfl, hb5⟩
  have HB5 := Lib.hid (HB4.out.trans (hb5.mono HB4.out.size))
  clear hb5
  go_wp2
  go_ret
  exact ⟨rfl, HB5.out⟩
end Go.Proofs.Ythfomoigaoffgaa.So
