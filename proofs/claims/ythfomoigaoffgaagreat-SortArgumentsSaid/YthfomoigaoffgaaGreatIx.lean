/- slices.IndexFunc and slices.ContainsFunc at this program's element types, over any predicate that answers and makes memory alone. Printed by wip/gen/ix.py. -/
import Derived.Test.YthfomoigaoffgaaGreatG
import Derived.Test.YthfomoigaoffgaaGreatProg
import Derived.WalkKit
import Derived.KernelRfl
import Derived.Shelf.SlicesQ.Load
import Derived.RowKit3
import Derived.Tactics
namespace Go.Proofs.YthfomoigaoffgaaGreat.Ix
open Go Go.RowKit Go.Proofs.YthfomoigaoffgaaGreat.K Go.Proofs.YthfomoigaoffgaaGreat.G
set_option linter.unusedSimpArgs false
set_option linter.unusedVariables false

/-- the place of the first that is hit; -1 -/
def idxP {α : Type} (p : α → Bool) : List α → Nat → Int
  | [], _ => -1
  | x :: l, i => if p x then (i : Int) else idxP p l (i + 1)
theorem idxP_miss {α : Type} (p : α → Bool) : ∀ (l : List α) (i : Nat), (∀ x ∈ l, p x = false) → idxP p l i = -1
  | [], _, _ => rfl
  | x :: l, i, h => by rw [idxP, if_neg (by rw [h x (List.mem_cons_self ..)]; decide)]; exact idxP_miss p l (i + 1) (fun y hy => h y (List.mem_cons_of_mem _ hy))
theorem idxP_drop {α : Type} (p : α → Bool) (l : List α) (k : Nat) (h : k < l.length) : idxP p (l.drop k) k = if p (l[k]'h) then (k : Int) else idxP p (l.drop (k + 1)) (k + 1) := by rw [List.drop_eq_getElem_cons h, idxP]
theorem idxP_any {α : Type} (p : α → Bool) : ∀ (l : List α) (i : Nat), decide (0 ≤ idxP p l i) = l.any p
  | [], _ => rfl
  | x :: l, i => by
    rw [idxP, List.any_cons]
    cases h : p x with
    | true => rw [if_pos rfl, Bool.true_or]; exact decide_eq_true (by omega)
    | false => rw [if_neg (by decide), Bool.false_or]; exact idxP_any p l (i + 1)
theorem idxP_range {α : Type} (p : α → Bool) : ∀ (l : List α) (i : Nat), idxP p l i = -1 ∨ ∃ k, ∃ h : k < l.length, idxP p l i = ((i + k : Nat) : Int) ∧ p (l[k]'h) = true ∧ ∀ j (hj : j < k), p (l[j]'(Nat.lt_trans hj h)) = false
  | [], _ => .inl rfl
  | x :: l, i => by
    rw [idxP]
    cases h : p x with
    | true => exact .inr ⟨0, by simp, by simp, h, fun j hj => absurd hj (Nat.not_lt_zero _)⟩
    | false =>
      rw [if_neg (by decide)]
      rcases idxP_range p l (i + 1) with e | ⟨k, hk, e, h1, h2⟩
      · exact .inl e
      · refine .inr ⟨k + 1, by simpa using hk, by rw [e]; congr 1; omega, by simpa using h1, fun j hj => ?_⟩
        cases j with
        | zero => exact h
        | succ j => simpa using h2 j (by omega)

/-- what is asked of a predicate over elements: it answers, and makes memory alone -/
def PredG (g : Nat) (lb : Array Value) {α : Type} (d : Rd α) (S : Nat → Prop) (v : List Value → Value) (p : α → Bool) (xs : List α) (w : World) : Prop :=
  ∀ (W : World) (x : α) (cs : List Value), x ∈ xs → Below w.heap.size w W → d.K S W x cs → Calls Tryz.prog g (#[v cs] ++ lb) W fun e W' => e = .returned (.bool (p x)) ∧ Below W.heap.size W W'
def aggV (cs : List Value) : Value := .agg cs.toArray
def oneV : List Value → Value
  | [v] => v
  | _ => undef

/-! ### triforium/api.Class -/
set_option maxHeartbeats 2000000 in
theorem IndexFunc_apiClass {α : Type} (d : Rd α) (S : Nat → Prop) (hsz : ∀ w, (Go.sizeOf 48).run Tryz.prog w = .ok d.sz w) (p : α → Bool) (g : Nat) (lb : Array Value) (eg : ∀ args w, (callFunc g args).run Tryz.prog w = .ok (.enter g args) w) (A : Option Addr) (c : Nat) (xs : List α) (w : World)
    (hp : PredG g lb d S aggV p xs w) (hC : C d S w A xs) (hc : xs.length ≤ c) :
    Calls Tryz.prog 77 #[.slice A xs.length c, .func (.func g) #[] lb] w fun e w' => e = .returned (.int .i64 (idxP p xs 0)) ∧ Below w.heap.size w w' := by
  have hm := hC.len
  unfold maxLen at hm
  have hag := Tryz.isAgg48
  have HZ := Lib.hid hsz
  clear hsz
  have HP := Lib.hid hp
  have HC := Lib.hid hC
  clear hp hC
  generalize hR : idxP p xs 0 = R
  have HR := Lib.hid hR
  clear hR
  go_enter Tryz.func77, Tryz.ntmps77
  go_wp2
  go_loopg [5, 8] xs.length (fun gg _ s8 wr => ∃ k : Nat, k ≤ xs.length ∧ xs.length - k ≤ gg ∧ s8 = .int .i64 k ∧ Hid (Below w.heap.size w wr) ∧ Hid (idxP p (xs.drop k) k = R))
  case atStart => exact ⟨0, Nat.zero_le _, by omega, rfl, Lib.hid (Below.refl _ w), HR⟩
  case round =>
    clear HR
    obtain ⟨k, hk, hg, rfl, HB, HR⟩ := hrel
    by_cases hlt : k < xs.length
    · have hltz : (k : Int) < (xs.length : Int) := by omega
      obtain ⟨b, o, cs, rfl, hS, hb, hK, hcell⟩ := (HC.out.below HB.out).at_ k hlt
      have hcall := HP.out wr _ cs (List.getElem_mem hlt) HB.out hK
      have hl := d.len hK
      have hrow : Sem.run Tryz.prog (loadCellsFrom ⟨b, o + k * d.sz, none⟩ 0 d.sz #[]) wr = .ok cs.toArray wr := run_loadCellsFrom_list Tryz.prog _ _ cs d.sz hl (fun i v hi => by rw [Addr.add_lit]; exact hcell i v hi)
      have hsz := HZ.out
      clear hcell
      have HR2 := HR.out
      rw [idxP_drop p xs k hlt] at HR2
      have HR := Lib.hid HR2
      clear HR2 hK
      generalize xs[k]'hlt = x at hcall HR
      unfold aggV at hcall
      cases hq : p x with
      | true =>
        rw [hq] at hcall HR
        obtain rfl := HR.out
        clear HR
        go_wp2_with (go_at_fn g; refine hcall.mono ?_; rintro e w' ⟨rfl, hb'⟩)
        go_ret
        exact ⟨rfl, HB.out.trans (hb'.mono HB.out.size)⟩
      | false =>
        rw [hq] at hcall HR
        go_wp2_with (go_at_fn g; refine hcall.mono ?_; rintro e w' ⟨rfl, hb'⟩)
        go_roundg (xs.length - (k + 1))
        case measure => omega
        case rel => exact ⟨k + 1, by omega, Nat.le_refl _, by go_num, Lib.hid (HB.out.trans (hb'.mono HB.out.size)), HR⟩
    · have hltz : ¬ (k : Int) < (xs.length : Int) := by omega
      have h0 := HR.out
      rw [List.drop_eq_nil_of_le (by omega)] at h0
      obtain rfl : (-1 : Int) = R := h0
      go_wp2
      go_ret
      exact ⟨rfl, HB.out⟩

theorem ContainsFunc_apiClass {α : Type} (d : Rd α) (S : Nat → Prop) (hsz : ∀ w, (Go.sizeOf 48).run Tryz.prog w = .ok d.sz w) (p : α → Bool) (g : Nat) (lb : Array Value) (eg : ∀ args w, (callFunc g args).run Tryz.prog w = .ok (.enter g args) w) (A : Option Addr) (c : Nat) (xs : List α) (w : World)
    (hp : PredG g lb d S aggV p xs w) (hC : C d S w A xs) (hc : xs.length ≤ c) :
    Calls Tryz.prog 55 #[.slice A xs.length c, .func (.func g) #[] lb] w fun e w' => e = .returned (.bool (xs.any p)) ∧ Below w.heap.size w w' := by
  have HX := Lib.hid (IndexFunc_apiClass d S hsz p g lb eg A c xs w hp hC hc)
  rw [← idxP_any p xs 0]
  clear hp hC hsz eg
  generalize idxP p xs 0 = R at HX ⊢
  go_enter Tryz.func55, Tryz.ntmps55
  go_wp2_with (go_at_call 77; refine HX.out.mono ?_; rintro e w' ⟨rfl, hb⟩)
  go_ret
  exact ⟨rfl, hb⟩

/-! ### string -/
set_option maxHeartbeats 2000000 in
theorem IndexFunc_string {α : Type} (d : Rd α) (S : Nat → Prop) (hsz : d.sz = 1) (p : α → Bool) (g : Nat) (lb : Array Value) (eg : ∀ args w, (callFunc g args).run Tryz.prog w = .ok (.enter g args) w) (A : Option Addr) (c : Nat) (xs : List α) (w : World)
    (hp : PredG g lb d S oneV p xs w) (hC : C d S w A xs) (hc : xs.length ≤ c) :
    Calls Tryz.prog 54 #[.slice A xs.length c, .func (.func g) #[] lb] w fun e w' => e = .returned (.int .i64 (idxP p xs 0)) ∧ Below w.heap.size w w' := by
  have hm := hC.len
  unfold maxLen at hm
  have HP := Lib.hid hp
  have HC := Lib.hid hC
  clear hp hC
  generalize hR : idxP p xs 0 = R
  have HR := Lib.hid hR
  clear hR
  go_enter Tryz.func54, Tryz.ntmps54
  go_wp2
  go_loopg [5, 8] xs.length (fun gg _ s8 wr => ∃ k : Nat, k ≤ xs.length ∧ xs.length - k ≤ gg ∧ s8 = .int .i64 k ∧ Hid (Below w.heap.size w wr) ∧ Hid (idxP p (xs.drop k) k = R))
  case atStart => exact ⟨0, Nat.zero_le _, by omega, rfl, Lib.hid (Below.refl _ w), HR⟩
  case round =>
    clear HR
    obtain ⟨k, hk, hg, rfl, HB, HR⟩ := hrel
    by_cases hlt : k < xs.length
    · have hltz : (k : Int) < (xs.length : Int) := by omega
      obtain ⟨b, o, cs, rfl, hS, hb, hK, hcell⟩ := (HC.out.below HB.out).at_ k hlt
      have hcall := HP.out wr _ cs (List.getElem_mem hlt) HB.out hK
      have hl := d.len hK
      rw [hsz] at hl hcell
      obtain ⟨v, rfl⟩ : ∃ v, cs = [v] := by
        match cs, hl with
        | [v], _ => exact ⟨v, rfl⟩
      have hv := hcell 0 v rfl
      rw [Nat.mul_one, Nat.add_zero] at hv
      have hone := d.one hK v (List.mem_singleton.2 rfl)
      have hcell0 := hv
      clear hv hcell
      have HR2 := HR.out
      rw [idxP_drop p xs k hlt] at HR2
      have HR := Lib.hid HR2
      clear HR2 hK
      generalize xs[k]'hlt = x at hcall HR
      unfold oneV at hcall
      cases hq : p x with
      | true =>
        rw [hq] at hcall HR
        obtain rfl := HR.out
        clear HR
        go_wp2_with (go_at_fn g; refine hcall.mono ?_; rintro e w' ⟨rfl, hb'⟩)
        go_ret
        exact ⟨rfl, HB.out.trans (hb'.mono HB.out.size)⟩
      | false =>
        rw [hq] at hcall HR
        go_wp2_with (go_at_fn g; refine hcall.mono ?_; rintro e w' ⟨rfl, hb'⟩)
        go_roundg (xs.length - (k + 1))
        case measure => omega
        case rel => exact ⟨k + 1, by omega, Nat.le_refl _, by go_num, Lib.hid (HB.out.trans (hb'.mono HB.out.size)), HR⟩
    · have hltz : ¬ (k : Int) < (xs.length : Int) := by omega
      have h0 := HR.out
      rw [List.drop_eq_nil_of_le (by omega)] at h0
      obtain rfl : (-1 : Int) = R := h0
      go_wp2
      go_ret
      exact ⟨rfl, HB.out⟩

theorem ContainsFunc_string {α : Type} (d : Rd α) (S : Nat → Prop) (hsz : d.sz = 1) (p : α → Bool) (g : Nat) (lb : Array Value) (eg : ∀ args w, (callFunc g args).run Tryz.prog w = .ok (.enter g args) w) (A : Option Addr) (c : Nat) (xs : List α) (w : World)
    (hp : PredG g lb d S oneV p xs w) (hC : C d S w A xs) (hc : xs.length ≤ c) :
    Calls Tryz.prog 33 #[.slice A xs.length c, .func (.func g) #[] lb] w fun e w' => e = .returned (.bool (xs.any p)) ∧ Below w.heap.size w w' := by
  have HX := Lib.hid (IndexFunc_string d S hsz p g lb eg A c xs w hp hC hc)
  rw [← idxP_any p xs 0]
  clear hp hC hsz eg
  generalize idxP p xs 0 = R at HX ⊢
  go_enter Tryz.func33, Tryz.ntmps33
  go_wp2_with (go_at_call 54; refine HX.out.mono ?_; rintro e w' ⟨rfl, hb⟩)
  go_ret
  exact ⟨rfl, hb⟩

/-! ### []string -/
set_option maxHeartbeats 2000000 in
theorem IndexFunc_lstring {α : Type} (d : Rd α) (S : Nat → Prop) (hsz : d.sz = 1) (p : α → Bool) (g : Nat) (lb : Array Value) (eg : ∀ args w, (callFunc g args).run Tryz.prog w = .ok (.enter g args) w) (A : Option Addr) (c : Nat) (xs : List α) (w : World)
    (hp : PredG g lb d S oneV p xs w) (hC : C d S w A xs) (hc : xs.length ≤ c) :
    Calls Tryz.prog 31 #[.slice A xs.length c, .func (.func g) #[] lb] w fun e w' => e = .returned (.int .i64 (idxP p xs 0)) ∧ Below w.heap.size w w' := by
  have hm := hC.len
  unfold maxLen at hm
  have HP := Lib.hid hp
  have HC := Lib.hid hC
  clear hp hC
  generalize hR : idxP p xs 0 = R
  have HR := Lib.hid hR
  clear hR
  go_enter Tryz.func31, Tryz.ntmps31
  go_wp2
  go_loopg [5, 8] xs.length (fun gg _ s8 wr => ∃ k : Nat, k ≤ xs.length ∧ xs.length - k ≤ gg ∧ s8 = .int .i64 k ∧ Hid (Below w.heap.size w wr) ∧ Hid (idxP p (xs.drop k) k = R))
  case atStart => exact ⟨0, Nat.zero_le _, by omega, rfl, Lib.hid (Below.refl _ w), HR⟩
  case round =>
    clear HR
    obtain ⟨k, hk, hg, rfl, HB, HR⟩ := hrel
    by_cases hlt : k < xs.length
    · have hltz : (k : Int) < (xs.length : Int) := by omega
      obtain ⟨b, o, cs, rfl, hS, hb, hK, hcell⟩ := (HC.out.below HB.out).at_ k hlt
      have hcall := HP.out wr _ cs (List.getElem_mem hlt) HB.out hK
      have hl := d.len hK
      rw [hsz] at hl hcell
      obtain ⟨v, rfl⟩ : ∃ v, cs = [v] := by
        match cs, hl with
        | [v], _ => exact ⟨v, rfl⟩
      have hv := hcell 0 v rfl
      rw [Nat.mul_one, Nat.add_zero] at hv
      have hone := d.one hK v (List.mem_singleton.2 rfl)
      have hcell0 := hv
      clear hv hcell
      have HR2 := HR.out
      rw [idxP_drop p xs k hlt] at HR2
      have HR := Lib.hid HR2
      clear HR2 hK
      generalize xs[k]'hlt = x at hcall HR
      unfold oneV at hcall
      cases hq : p x with
      | true =>
        rw [hq] at hcall HR
        obtain rfl := HR.out
        clear HR
        go_wp2_with (go_at_fn g; refine hcall.mono ?_; rintro e w' ⟨rfl, hb'⟩)
        go_ret
        exact ⟨rfl, HB.out.trans (hb'.mono HB.out.size)⟩
      | false =>
        rw [hq] at hcall HR
        go_wp2_with (go_at_fn g; refine hcall.mono ?_; rintro e w' ⟨rfl, hb'⟩)
        go_roundg (xs.length - (k + 1))
        case measure => omega
        case rel => exact ⟨k + 1, by omega, Nat.le_refl _, by go_num, Lib.hid (HB.out.trans (hb'.mono HB.out.size)), HR⟩
    · have hltz : ¬ (k : Int) < (xs.length : Int) := by omega
      have h0 := HR.out
      rw [List.drop_eq_nil_of_le (by omega)] at h0
      obtain rfl : (-1 : Int) = R := h0
      go_wp2
      go_ret
      exact ⟨rfl, HB.out⟩

theorem ContainsFunc_lstring {α : Type} (d : Rd α) (S : Nat → Prop) (hsz : d.sz = 1) (p : α → Bool) (g : Nat) (lb : Array Value) (eg : ∀ args w, (callFunc g args).run Tryz.prog w = .ok (.enter g args) w) (A : Option Addr) (c : Nat) (xs : List α) (w : World)
    (hp : PredG g lb d S oneV p xs w) (hC : C d S w A xs) (hc : xs.length ≤ c) :
    Calls Tryz.prog 15 #[.slice A xs.length c, .func (.func g) #[] lb] w fun e w' => e = .returned (.bool (xs.any p)) ∧ Below w.heap.size w w' := by
  have HX := Lib.hid (IndexFunc_lstring d S hsz p g lb eg A c xs w hp hC hc)
  rw [← idxP_any p xs 0]
  clear hp hC hsz eg
  generalize idxP p xs 0 = R at HX ⊢
  go_enter Tryz.func15, Tryz.ntmps15
  go_wp2_with (go_at_call 31; refine HX.out.mono ?_; rintro e w' ⟨rfl, hb⟩)
  go_ret
  exact ⟨rfl, hb⟩

/-! ### byte -/
set_option maxHeartbeats 2000000 in
theorem IndexFunc_byte {α : Type} (d : Rd α) (S : Nat → Prop) (hsz : d.sz = 1) (p : α → Bool) (g : Nat) (lb : Array Value) (eg : ∀ args w, (callFunc g args).run Tryz.prog w = .ok (.enter g args) w) (A : Option Addr) (c : Nat) (xs : List α) (w : World)
    (hp : PredG g lb d S oneV p xs w) (hC : C d S w A xs) (hc : xs.length ≤ c) :
    Calls Tryz.prog 66 #[.slice A xs.length c, .func (.func g) #[] lb] w fun e w' => e = .returned (.int .i64 (idxP p xs 0)) ∧ Below w.heap.size w w' := by
  have hm := hC.len
  unfold maxLen at hm
  have HP := Lib.hid hp
  have HC := Lib.hid hC
  clear hp hC
  generalize hR : idxP p xs 0 = R
  have HR := Lib.hid hR
  clear hR
  go_enter Tryz.func66, Tryz.ntmps66
  go_wp2
  go_loopg [5, 8] xs.length (fun gg _ s8 wr => ∃ k : Nat, k ≤ xs.length ∧ xs.length - k ≤ gg ∧ s8 = .int .i64 k ∧ Hid (Below w.heap.size w wr) ∧ Hid (idxP p (xs.drop k) k = R))
  case atStart => exact ⟨0, Nat.zero_le _, by omega, rfl, Lib.hid (Below.refl _ w), HR⟩
  case round =>
    clear HR
    obtain ⟨k, hk, hg, rfl, HB, HR⟩ := hrel
    by_cases hlt : k < xs.length
    · have hltz : (k : Int) < (xs.length : Int) := by omega
      obtain ⟨b, o, cs, rfl, hS, hb, hK, hcell⟩ := (HC.out.below HB.out).at_ k hlt
      have hcall := HP.out wr _ cs (List.getElem_mem hlt) HB.out hK
      have hl := d.len hK
      rw [hsz] at hl hcell
      obtain ⟨v, rfl⟩ : ∃ v, cs = [v] := by
        match cs, hl with
        | [v], _ => exact ⟨v, rfl⟩
      have hv := hcell 0 v rfl
      rw [Nat.mul_one, Nat.add_zero] at hv
      have hone := d.one hK v (List.mem_singleton.2 rfl)
      have hcell0 := hv
      clear hv hcell
      have HR2 := HR.out
      rw [idxP_drop p xs k hlt] at HR2
      have HR := Lib.hid HR2
      clear HR2 hK
      generalize xs[k]'hlt = x at hcall HR
      unfold oneV at hcall
      cases hq : p x with
      | true =>
        rw [hq] at hcall HR
        obtain rfl := HR.out
        clear HR
        go_wp2_with (go_at_fn g; refine hcall.mono ?_; rintro e w' ⟨rfl, hb'⟩)
        go_ret
        exact ⟨rfl, HB.out.trans (hb'.mono HB.out.size)⟩
      | false =>
        rw [hq] at hcall HR
        go_wp2_with (go_at_fn g; refine hcall.mono ?_; rintro e w' ⟨rfl, hb'⟩)
        go_roundg (xs.length - (k + 1))
        case measure => omega
        case rel => exact ⟨k + 1, by omega, Nat.le_refl _, by go_num, Lib.hid (HB.out.trans (hb'.mono HB.out.size)), HR⟩
    · have hltz : ¬ (k : Int) < (xs.length : Int) := by omega
      have h0 := HR.out
      rw [List.drop_eq_nil_of_le (by omega)] at h0
      obtain rfl : (-1 : Int) = R := h0
      go_wp2
      go_ret
      exact ⟨rfl, HB.out⟩

theorem ContainsFunc_byte {α : Type} (d : Rd α) (S : Nat → Prop) (hsz : d.sz = 1) (p : α → Bool) (g : Nat) (lb : Array Value) (eg : ∀ args w, (callFunc g args).run Tryz.prog w = .ok (.enter g args) w) (A : Option Addr) (c : Nat) (xs : List α) (w : World)
    (hp : PredG g lb d S oneV p xs w) (hC : C d S w A xs) (hc : xs.length ≤ c) :
    Calls Tryz.prog 38 #[.slice A xs.length c, .func (.func g) #[] lb] w fun e w' => e = .returned (.bool (xs.any p)) ∧ Below w.heap.size w w' := by
  have HX := Lib.hid (IndexFunc_byte d S hsz p g lb eg A c xs w hp hC hc)
  rw [← idxP_any p xs 0]
  clear hp hC hsz eg
  generalize idxP p xs 0 = R at HX ⊢
  go_enter Tryz.func38, Tryz.ntmps38
  go_wp2_with (go_at_call 66; refine HX.out.mono ?_; rintro e w' ⟨rfl, hb⟩)
  go_ret
  exact ⟨rfl, hb⟩

end Go.Proofs.YthfomoigaoffgaaGreat.Ix
