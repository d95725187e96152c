/- slices.IndexFunc and slices.ContainsFunc at this program's element types, over any predicate that answers and makes memory alone. Printed by wip/gen/ix.py. -/
import Derived.Test.YthfomoigaoffgaaGreatIx
import Derived.Test.YthfomoigaoffgaaGreatG
import Derived.Test.YthfomoigaoffgaaGreatProg
import Derived.WalkKit
import Derived.KernelRfl
import Derived.Shelf.SlicesQ.Load
import Derived.RowKit3
import Derived.Tactics
namespace Go.Proofs.YthfomoigaoffgaaGreat.Ix
open Go Go.RowKit Go.Proofs.YthfomoigaoffgaaGreat.K Go.Proofs.YthfomoigaoffgaaGreat.G
set_option linter.unusedSimpArgs false
set_option linter.unusedVariables false

/-! ### triforium/api.TypeDecl -/
set_option maxHeartbeats 2000000 in
theorem IndexFunc_apiTypeDecl {α : Type} (d : Rd α) (S : Nat → Prop) (hsz : ∀ w, (Go.sizeOf 54).run Tryz.prog w = .ok d.sz w) (p : α → Bool) (g : Nat) (lb : Array Value) (eg : ∀ args w, (callFunc g args).run Tryz.prog w = .ok (.enter g args) w) (A : Option Addr) (c : Nat) (xs : List α) (w : World)
    (hp : PredG g lb d S aggV p xs w) (hC : C d S w A xs) (hc : xs.length ≤ c) :
    Calls Tryz.prog 43 #[.slice A xs.length c, .func (.func g) #[] lb] w fun e w' => e = .returned (.int .i64 (idxP p xs 0)) ∧ Below w.heap.size w w' := by
  have hm := hC.len
  unfold maxLen at hm
  have hag := Tryz.isAgg54
  have HZ := Lib.hid hsz
  clear hsz
  have HP := Lib.hid hp
  have HC := Lib.hid hC
  clear hp hC
  generalize hR : idxP p xs 0 = R
  have HR := Lib.hid hR
  clear hR
  go_enter Tryz.func43, Tryz.ntmps43
  go_wp2
  go_loopg [5, 8] xs.length (fun gg _ s8 wr => ∃ k : Nat, k ≤ xs.length ∧ xs.length - k ≤ gg ∧ s8 = .int .i64 k ∧ Hid (Below w.heap.size w wr) ∧ Hid (idxP p (xs.drop k) k = R))
  case atStart => exact ⟨0, Nat.zero_le _, by omega, rfl, Lib.hid (Below.refl _ w), HR⟩
  case round =>
    clear HR
    obtain ⟨k, hk, hg, rfl, HB, HR⟩ := hrel
    by_cases hlt : k < xs.length
    · have hltz : (k : Int) < (xs.length : Int) := by omega
      obtain ⟨b, o, cs, rfl, hS, hb, hK, hcell⟩ := (HC.out.below HB.out).at_ k hlt
      have hcall := HP.out wr _ cs (List.getElem_mem hlt) HB.out hK
      have hl := d.len hK
      have hrow : Sem.run Tryz.prog (loadCellsFrom ⟨b, o + k * d.sz, none⟩ 0 d.sz #[]) wr = .ok cs.toArray wr := run_loadCellsFrom_list Tryz.prog _ _ cs d.sz hl (fun i v hi => by rw [Addr.add_lit]; exact hcell i v hi)
      have hsz := HZ.out
      clear hcell
      have HR2 := HR.out
      rw [idxP_drop p xs k hlt] at HR2
      have HR := Lib.hid HR2
      clear HR2 hK
      generalize xs[k]'hlt = x at hcall HR
      unfold aggV at hcall
      cases hq : p x with
      | true =>
        rw [hq] at hcall HR
        obtain rfl := HR.out
        clear HR
        go_wp2_with (go_at_fn g; refine hcall.mono ?_; rintro e w' ⟨rfl, hb'⟩)
        go_ret
        exact ⟨rfl, HB.out.trans (hb'.mono HB.out.size)⟩
      | false =>
        rw [hq] at hcall HR
        go_wp2_with (go_at_fn g; refine hcall.mono ?_; rintro e w' ⟨rfl, hb'⟩)
        go_roundg (xs.length - (k + 1))
        case measure => omega
        case rel => exact ⟨k + 1, by omega, Nat.le_refl _, by go_num, Lib.hid (HB.out.trans (hb'.mono HB.out.size)), HR⟩
    · have hltz : ¬ (k : Int) < (xs.length : Int) := by omega
      have h0 := HR.out
      rw [List.drop_eq_nil_of_le (by omega)] at h0
      obtain rfl : (-1 : Int) = R := h0
      go_wp2
      go_ret
      exact ⟨rfl, HB.out⟩

theorem ContainsFunc_apiTypeDecl {α : Type} (d : Rd α) (S : Nat → Prop) (hsz : ∀ w, (Go.sizeOf 54).run Tryz.prog w = .ok d.sz w) (p : α → Bool) (g : Nat) (lb : Array Value) (eg : ∀ args w, (callFunc g args).run Tryz.prog w = .ok (.enter g args) w) (A : Option Addr) (c : Nat) (xs : List α) (w : World)
    (hp : PredG g lb d S aggV p xs w) (hC : C d S w A xs) (hc : xs.length ≤ c) :
    Calls Tryz.prog 20 #[.slice A xs.length c, .func (.func g) #[] lb] w fun e w' => e = .returned (.bool (xs.any p)) ∧ Below w.heap.size w w' := by
  have HX := Lib.hid (IndexFunc_apiTypeDecl d S hsz p g lb eg A c xs w hp hC hc)
  rw [← idxP_any p xs 0]
  clear hp hC hsz eg
  generalize idxP p xs 0 = R at HX ⊢
  go_enter Tryz.func20, Tryz.ntmps20
  go_wp2_with (go_at_call 43; refine HX.out.mono ?_; rintro e w' ⟨rfl, hb⟩)
  go_ret
  exact ⟨rfl, hb⟩

/-! ### triforium/api.Arity -/
set_option maxHeartbeats 2000000 in
theorem IndexFunc_apiArity {α : Type} (d : Rd α) (S : Nat → Prop) (hsz : ∀ w, (Go.sizeOf 50).run Tryz.prog w = .ok d.sz w) (p : α → Bool) (g : Nat) (lb : Array Value) (eg : ∀ args w, (callFunc g args).run Tryz.prog w = .ok (.enter g args) w) (A : Option Addr) (c : Nat) (xs : List α) (w : World)
    (hp : PredG g lb d S aggV p xs w) (hC : C d S w A xs) (hc : xs.length ≤ c) :
    Calls Tryz.prog 45 #[.slice A xs.length c, .func (.func g) #[] lb] w fun e w' => e = .returned (.int .i64 (idxP p xs 0)) ∧ Below w.heap.size w w' := by
  have hm := hC.len
  unfold maxLen at hm
  have hag := Tryz.isAgg50
  have HZ := Lib.hid hsz
  clear hsz
  have HP := Lib.hid hp
  have HC := Lib.hid hC
  clear hp hC
  generalize hR : idxP p xs 0 = R
  have HR := Lib.hid hR
  clear hR
  go_enter Tryz.func45, Tryz.ntmps45
  go_wp2
  go_loopg [5, 8] xs.length (fun gg _ s8 wr => ∃ k : Nat, k ≤ xs.length ∧ xs.length - k ≤ gg ∧ s8 = .int .i64 k ∧ Hid (Below w.heap.size w wr) ∧ Hid (idxP p (xs.drop k) k = R))
  case atStart => exact ⟨0, Nat.zero_le _, by omega, rfl, Lib.hid (Below.refl _ w), HR⟩
  case round =>
    clear HR
    obtain ⟨k, hk, hg, rfl, HB, HR⟩ := hrel
    by_cases hlt : k < xs.length
    · have hltz : (k : Int) < (xs.length : Int) := by omega
      obtain ⟨b, o, cs, rfl, hS, hb, hK, hcell⟩ := (HC.out.below HB.out).at_ k hlt
      have hcall := HP.out wr _ cs (List.getElem_mem hlt) HB.out hK
      have hl := d.len hK
      have hrow : Sem.run Tryz.prog (loadCellsFrom ⟨b, o + k * d.sz, none⟩ 0 d.sz #[]) wr = .ok cs.toArray wr := run_loadCellsFrom_list Tryz.prog _ _ cs d.sz hl (fun i v hi => by rw [Addr.add_lit]; exact hcell i v hi)
      have hsz := HZ.out
      clear hcell
      have HR2 := HR.out
      rw [idxP_drop p xs k hlt] at HR2
      have HR := Lib.hid HR2
      clear HR2 hK
      generalize xs[k]'hlt = x at hcall HR
      unfold aggV at hcall
      cases hq : p x with
      | true =>
        rw [hq] at hcall HR
        obtain rfl := HR.out
        clear HR
        go_wp2_with (go_at_fn g; refine hcall.mono ?_; rintro e w' ⟨rfl, hb'⟩)
        go_ret
        exact ⟨rfl, HB.out.trans (hb'.mono HB.out.size)⟩
      | false =>
        rw [hq] at hcall HR
        go_wp2_with (go_at_fn g; refine hcall.mono ?_; rintro e w' ⟨rfl, hb'⟩)
        go_roundg (xs.length - (k + 1))
        case measure => omega
        case rel => exact ⟨k + 1, by omega, Nat.le_refl _, by go_num, Lib.hid (HB.out.trans (hb'.mono HB.out.size)), HR⟩
    · have hltz : ¬ (k : Int) < (xs.length : Int) := by omega
      have h0 := HR.out
      rw [List.drop_eq_nil_of_le (by omega)] at h0
      obtain rfl : (-1 : Int) = R := h0
      go_wp2
      go_ret
      exact ⟨rfl, HB.out⟩

end Go.Proofs.YthfomoigaoffgaaGreat.Ix
