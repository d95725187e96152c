/- Rows in memory, as our words and the print's say it; contracts of the small functions, by the plain model. -/
import Derived.Test.YtggfjfmgclcnlaaOw
import Derived.Test.YtggfjfmgclcnlaaIx
import Derived.Test.YtggfjfmgclcnlaaZqr
namespace Go.Proofs.Ytggfjfmgclcnlaa.Zb
open Go Go.RowKit Go.Proofs.Ytggfjfmgclcnlaa.K Go.Proofs.Ytggfjfmgclcnlaa.G Go.Proofs.Ytggfjfmgclcnlaa.E Go.Proofs.Ytggfjfmgclcnlaa.Z Go.Proofs.YtggfjfmgclcnlaaW.PrintWords Go.Proofs.YtggfjfmgclcnlaaW.PrintLast Go.Proofs.YtggfjfmgclcnlaaW.PrintMore Go.Proofs.Ytggfjfmgclcnlaa.PSatSolves
set_option linter.unusedSimpArgs false
set_option linter.unusedVariables false

abbrev kI : Rd Int := G.int .i64
abbrev kL : Rd (List Int) := G.slice kI
abbrev kS : Rd Stp := pair kI (pair kI kI)
abbrev Any : Nat → Prop := fun _ => True
abbrev NoB : Nat → Prop := fun _ => False
theorem toKd {α β : Type} {d : Rd α} {d' : Kd β} (f : α → β) (hsz : d.sz = d'.sz) (hK : ∀ S w x cs, d.K S w x cs → d'.K w (f x) cs) {S : Nat → Prop} {w : World} {A : Option Addr} {xs : List α} (h : C d S w A xs) : Kd.C d' w A xs.length (xs.map f) := by
  refine ⟨by rw [List.length_map], by have := h.len; simpa [maxLen] using this, fun hn => ?_⟩
  obtain ⟨b, o, e, _, _, hc⟩ := h.2 (fun e => by rw [e] at hn; exact absurd hn (Nat.lt_irrefl _))
  refine ⟨_, e, fun j p hj => ?_⟩
  rw [List.getElem?_map] at hj
  cases hx : xs[j]? with
  | none => rw [hx] at hj; cases hj
  | some x =>
    rw [hx] at hj
    simp only [Option.map_some, Option.some.injEq] at hj
    subst hj
    obtain ⟨cs, hk, hcc⟩ := hc j x hx
    refine ⟨cs, (d.len hk).trans hsz, hK _ _ _ _ hk, fun i u hu => ?_⟩
    rw [← hcc i u hu, hsz]
    unfold Addr.add
    split <;> simp_all [Nat.add_assoc]
theorem toKd1 {α : Type} {d : Rd α} {d' : Kd α} (hsz : d.sz = d'.sz) (hK : ∀ S w x cs, d.K S w x cs → d'.K w x cs) {S : Nat → Prop} {w : World} {A : Option Addr} {xs : List α} (h : C d S w A xs) : Kd.C d' w A xs.length xs := by
  have := toKd (d' := d') id hsz hK h
  rwa [List.map_id] at this
theorem kdI {S : Nat → Prop} {w : World} {A : Option Addr} {xs : List Int} (h : C kI S w A xs) : Kd.C (Kd.int .i64) w A xs.length xs := toKd1 (d' := Kd.int .i64) rfl (fun _ _ _ _ h => h) h
theorem kdB {S : Nat → Prop} {w : World} {A : Option Addr} {xs : List Bool} (h : C G.bool S w A xs) : Kd.C Kd.bool w A xs.length xs := toKd1 (d' := Kd.bool) rfl (fun _ _ _ _ h => h) h
theorem kdL {S : Nat → Prop} {w : World} {A : Option Addr} {xs : List (List Int)} (h : C kL S w A xs) : Kd.C (Kd.slice 3 (Kd.int .i64)) w A xs.length xs :=
  toKd1 (d' := Kd.slice 3 (Kd.int .i64)) rfl (fun _ _ _ _ h => by
    obtain ⟨A, c, e, hl, hc⟩ := h
    exact ⟨A, c, e, hl, kdI hc⟩) h

/-! ### the small functions -/
theorem atom_calls (x : Int) (w : World) (h : -1000000000 ≤ x) (h2 : x ≤ 1000000000) : Calls Try.prog 35 #[.int .i64 x] w fun e w' => e = .returned (.int .i64 (atm x)) ∧ w = w' := by
  unfold atm
  by_cases hx : x < 0
  · rw [if_pos hx]
    go_enter Try.func35, Try.ntmps35
    go_wp2
    go_ret
    exact ⟨rfl, rfl⟩
  · rw [if_neg hx]
    go_enter Try.func35, Try.ntmps35
    go_wp2
    go_ret
    exact ⟨rfl, rfl⟩
theorem holds_calls (x : Int) (w : World) : Calls Try.prog 61 #[.int .i64 x] w fun e w' => e = .returned (.bool (decide (0 < x))) ∧ w = w' := by
  go_enter Try.func61, Try.ntmps61
  go_wp2
  go_ret
  exact ⟨rfl, rfl⟩
theorem has_calls {S : Nat → Prop} {A : Option Addr} {c : Nat} {l : List Int} (x : Int) {w : World} (h : C kI S w A l) (hc : l.length ≤ c) (hl : l.length ≤ 1000000000) : Calls Try.prog 47 #[.slice A l.length c, .int .i64 x] w fun e w' => e = .returned (.bool (decide (x ∈ l))) ∧ Below w.heap.size w w' := by
  obtain ⟨k, hk⟩ := (shas l x hl).at_
  exact (sat_has_int.calls k A c l x _ w (kdI h) hc hk).mono fun _ _ ⟨h, d⟩ => ⟨h, d.below⟩
theorem check_calls2 {S : Nat → Prop} {A : Option Addr} {c : Nat} {l : List (List Int)} {w : World} (h : C kL S w A l) (hc : l.length ≤ c) (hl : l.length ≤ 1000000000) (hcl : 500 < l.length ∨ ∀ c ∈ l, c.length ≤ 1000000000) : Calls Try.prog 20 #[.slice A l.length c] w fun e w' => e = .returned (.int .i64 (checkL l)) ∧ Below w.heap.size w w' := by
  obtain ⟨k, hk⟩ := (scheck l hl hcl).at_
  exact (sat_Check.calls k A c l _ w (kdL h) hc hk).mono fun _ _ ⟨h, d⟩ => ⟨h, d.below⟩
theorem check_calls {S : Nat → Prop} {A : Option Addr} {c : Nat} {l : List (List Int)} {w : World} (h : C kL S w A l) (hc : l.length ≤ c) (hl : l.length ≤ 1000000000) (hcl : ∀ c ∈ l, c.length ≤ 1000000000) : Calls Try.prog 20 #[.slice A l.length c] w fun e w' => e = .returned (.int .i64 (checkL l)) ∧ Below w.heap.size w w' := check_calls2 h hc hl (.inr hcl)
theorem rcheck_calls2 {S : Nat → Prop} {A : Option Addr} {c : Nat} {l : List (List Int)} {w : World} (h : C kL S w A l) (hc : l.length ≤ c) (hl : l.length ≤ 1000000000) (hcl : 500 < l.length ∨ ∀ c ∈ l, c.length ≤ 1000000000) : Calls Try.prog 8 #[.slice A l.length c] w fun e w' => e = .returned (.int .i64 (checkL l)) ∧ Below w.heap.size w w' := by
  obtain ⟨k, hk⟩ := (rcheck l hl hcl).at_
  exact triforiumref25_Check.calls k A c l _ w (kdL h) hc hk
theorem rcheck_calls {S : Nat → Prop} {A : Option Addr} {c : Nat} {l : List (List Int)} {w : World} (h : C kL S w A l) (hc : l.length ≤ c) (hl : l.length ≤ 1000000000) (hcl : ∀ c ∈ l, c.length ≤ 1000000000) : Calls Try.prog 8 #[.slice A l.length c] w fun e w' => e = .returned (.int .i64 (checkL l)) ∧ Below w.heap.size w w' := rcheck_calls2 h hc hl (.inr hcl)
theorem rgrt_calls {S : Nat → Prop} {A : Option Addr} {c : Nat} {l : List (List Int)} {w : World} (h : C kL S w A l) (hc : l.length ≤ c) (hl : l.length ≤ 1000000000) (hcl : ∀ c ∈ l, c.length ≤ 1000000000) : Calls Try.prog 9 #[.slice A l.length c] w fun e w' => e = .returned (.int .i64 (grtI l)) ∧ Below w.heap.size w w' := by
  obtain ⟨k, hk⟩ := (rgrt l hl hcl).at_
  exact triforiumref25_Greatest.calls k A c l _ w (kdL h) hc hk
end Go.Proofs.Ytggfjfmgclcnlaa.Zb
