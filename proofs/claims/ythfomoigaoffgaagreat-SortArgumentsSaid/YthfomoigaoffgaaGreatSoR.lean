/- The arguments of the laws of sort, read: a theory, a sort. -/
import Derived.Test.YthfomoigaoffgaaGreatSo1
import Derived.Test.YthfomoigaoffgaaGreatRows
import Derived.ProofKit
import Derived.OpenShut
import Derived.ShutString
import Derived.ChangeOld
import Derived.ChangeShapes
import Derived.WideShapes
import Derived.SizedLaws
namespace Go.Proofs.YthfomoigaoffgaaGreat.Row
set_option linter.unusedSimpArgs false
set_option linter.unusedVariables false
open Go Go.RowKit Go.ChangeShapes Go.WideShapes Go.ChangeAt Go.Proofs.YthfomoigaoffgaaGreat.G Go.Proofs.YthfomoigaoffgaaGreat.O Go.Proofs.YthfomoigaoffgaaGreat.So

theorem own : ownKnob Tryz.prog.godebug = none := by kernel_rfl
theorem laidOut : laidOutB Tryz.prog = true := by kernel_rfl

section
variable {H : Type} {enc : TypeId × Value → H} {P : Program} {w : World} {base : Nat} {spare : Nat → Bool} {held : Bool}
theorem trodAll_four {t t' t'' t3 : TypeId} {args : Array Value} {ds : List (DataW H)} {ps : List MemPlace} (h : DataW.TrodAll enc P w base spare held [t, t', t'', t3] args.toList ds ps) :
    ∃ v v' v'' v3 d d' d'' d3 p p' p'' p3, args = #[v, v', v'', v3] ∧ ds = [d, d', d'', d3] ∧ ps = p ++ p' ++ p'' ++ p3 ∧ DataW.Trod enc P w base spare held t v d p ∧ DataW.Trod enc P w base spare held t' v' d' p' ∧ DataW.Trod enc P w base spare held t'' v'' d'' p'' ∧ DataW.Trod enc P w base spare held t3 v3 d3 p3 := by
  obtain ⟨v, vs, d, ds', p, q, hargs, rfl, rfl, hd, hrest⟩ := trodAll_cons h
  obtain ⟨v', vs', d', ds'', p', q', rfl, rfl, rfl, hd', hrest'⟩ := trodAll_cons hrest
  obtain ⟨v'', vs'', d'', ds''', p'', q'', rfl, rfl, rfl, hd'', hrest''⟩ := trodAll_cons hrest'
  obtain ⟨v3, vs3, d3, ds4, p3, q3, rfl, rfl, rfl, hd3, hrest3⟩ := trodAll_cons hrest''
  obtain ⟨rfl, rfl, rfl⟩ := trodAll_nil hrest3
  exact ⟨v, v', v'', v3, d, d', d'', d3, p, p', p'', p3, by cases args; simp_all, rfl, by simp, hd, hd', hd'', hd3⟩
theorem trodAll_mk4 {t t' t'' t3 : TypeId} {v v' v'' v3 : Value} {d d' d'' d3 : DataW H} {p p' p'' p3 : List MemPlace} (h : DataW.Trod enc P w base spare held t v d p) (h' : DataW.Trod enc P w base spare held t' v' d' p')
    (h'' : DataW.Trod enc P w base spare held t'' v'' d'' p'') (h3 : DataW.Trod enc P w base spare held t3 v3 d3 p3) : DataW.TrodAll enc P w base spare held [t, t', t'', t3] [v, v', v'', v3] [d, d', d'', d3] (p ++ (p' ++ (p'' ++ p3))) := ⟨p, p' ++ (p'' ++ p3), h, trodAll_mk3 h' h'' h3, rfl⟩
end
/-- a slice of which nothing is said but where it lies -/
def rawS : Rd (Option Addr × Nat × Nat) := scalar (fun x => Value.slice x.1 x.2.1 x.2.2) (fun _ => rfl)
theorem opens_raw {P : Program} {t e : TypeId} (ht : P.underlying t = some (.slice e)) (n : Nat) : Opens P rawS (fun _ => True) t n := fun m hm H enc W sp hd cs x hx => by
  rcases DataW.trod_slice ht hx with ⟨rfl, _⟩ | ⟨a, len, cap, elems, rest, q, hq, rfl, rfl, hb, hl, hcm, hlen, hel, _⟩
  · exact ⟨(none, 0, 0), rfl, trivial⟩
  · exact ⟨(some a, len, cap), rfl, trivial⟩

abbrev S' := fun s : ByteArray => s.size ≤ maxLen
theorem o_strs (n : Nat) : Opens Tryz.prog (slice str) (fun l => ∀ s ∈ l, s.size ≤ maxLen) 27 n := (opens_str Tryz.underlying9 n).slice Tryz.underlying27 (by kernel_rfl) (by decide)
theorem o_strss (n : Nat) : Opens Tryz.prog (slice (slice str)) (fun l => ∀ s ∈ l, ∀ x ∈ s, x.size ≤ maxLen) 34 n := (o_strs n).slice Tryz.underlying34 (by kernel_rfl) (by decide)
theorem o_cl (n : Nat) : Opens Tryz.prog kCl (fun x => x.1.size ≤ maxLen ∧ ∀ s ∈ x.2, s.size ≤ maxLen) 48 (n + 1) := by
  refine OpensFs.struct ?_ Tryz.underlying48 rfl (by kernel_rfl)
  exact Opens.cons (opens_str Tryz.underlying9 n) (Opens.last (o_strs n) rfl rfl (by kernel_rfl)) rfl rfl (by kernel_rfl)
theorem o_td (n : Nat) : Opens Tryz.prog kTd (fun x => x.1.size ≤ maxLen ∧ (Lit.int .i64 x.2).wf = true) 54 (n + 1) := by
  refine OpensFs.struct ?_ Tryz.underlying54 rfl (by kernel_rfl)
  exact Opens.cons (opens_str Tryz.underlying9 n) (Opens.last (opens_int Tryz.underlying3 n) rfl rfl (by kernel_rfl)) rfl rfl (by kernel_rfl)
theorem o_ar (n : Nat) : Opens Tryz.prog kAr (fun x => x.1.size ≤ maxLen ∧ x.2.1.size ≤ maxLen ∧ ∀ s ∈ x.2.2, ∀ y ∈ s, y.size ≤ maxLen) 50 (n + 1) := by
  refine OpensFs.struct ?_ Tryz.underlying50 rfl (by kernel_rfl)
  exact Opens.cons (opens_str Tryz.underlying9 n) (Opens.cons (opens_str Tryz.underlying9 n) (Opens.last (o_strss n) rfl rfl (by kernel_rfl)) rfl rfl (by kernel_rfl)) rfl rfl (by kernel_rfl)
def kTh := pair str (pair (slice kCl) (pair (slice kTd) (pair (slice kAr) (pair rawS (pair rawS rawS)))))
theorem o_th (n : Nat) : Opens Tryz.prog kTh (fun x => x.1.size ≤ maxLen ∧ (∀ c ∈ x.2.1, c.1.size ≤ maxLen ∧ ∀ s ∈ c.2, s.size ≤ maxLen) ∧ (∀ c ∈ x.2.2.1, c.1.size ≤ maxLen ∧ (Lit.int .i64 c.2).wf = true) ∧ (∀ c ∈ x.2.2.2.1, c.1.size ≤ maxLen ∧ c.2.1.size ≤ maxLen ∧ ∀ s ∈ c.2.2, ∀ y ∈ s, y.size ≤ maxLen) ∧ True ∧ True ∧ True) 29 (n + 1 + 1) := by
  refine OpensFs.struct ?_ Tryz.underlying29 rfl (by kernel_rfl)
  exact Opens.cons (opens_str Tryz.underlying9 _) (Opens.cons ((o_cl n).slice Tryz.underlying22 (by kernel_rfl) (by decide)) (Opens.cons ((o_td n).slice Tryz.underlying23 (by kernel_rfl) (by decide)) (Opens.cons ((o_ar n).slice Tryz.underlying24 (by kernel_rfl) (by decide))
    (Opens.cons (opens_raw Tryz.underlying25 _) (Opens.cons (opens_raw Tryz.underlying26 _) (Opens.last (opens_raw Tryz.underlying27 _) rfl rfl (by kernel_rfl)) rfl rfl (by kernel_rfl)) rfl rfl (by kernel_rfl)) rfl rfl (by kernel_rfl)) rfl rfl (by kernel_rfl)) rfl rfl (by kernel_rfl)) rfl rfl (by kernel_rfl)

/-- an argument of type []string -/
theorem strs_arg {H : Type} {enc : TypeId × Value → H} {W : World} {held : Bool} {A : Option Addr} {len cap : Nat} {d : DataW H} {p : List MemPlace}
    (h : DataW.Trod enc Tryz.prog W 0 (fun _ => true) held 27 (.slice A len cap) d p) : ∃ l : List ByteArray, len = l.length ∧ len ≤ cap ∧ C str (fun _ => True) W A l ∧ ∀ s ∈ l, s.size ≤ maxLen := by
  obtain ⟨m, hm⟩ := h
  obtain ⟨l, ⟨A', c', e, hl, hC⟩, hs⟩ := o_strs m m (Nat.le_refl _) H enc W _ held _ _ hm
  simp [Value.cells] at e
  obtain ⟨rfl, rfl, rfl⟩ := e
  exact ⟨l, rfl, hl, hC, hs⟩
/-- an argument of type api.Theory -/
theorem thy_arg {H : Type} {enc : TypeId × Value → H} {W : World} {held : Bool} {cs : Array Value} {d : DataW H} {p : List MemPlace}
    (h : DataW.Trod enc Tryz.prog W 0 (fun _ => true) held 29 (.agg cs) d p) : ∃ (r : Raw) (T : Thy), Value.agg cs = thyV r T ∧ ThyR (fun _ => True) W r T ∧ r.nm.size ≤ maxLen ∧
      (∀ c ∈ T.tys, c.1.size ≤ maxLen ∧ (Lit.int .i64 c.2).wf = true) ∧ (∀ c ∈ T.ars, c.1.size ≤ maxLen ∧ c.2.1.size ≤ maxLen ∧ ∀ s ∈ c.2.2, ∀ y ∈ s, y.size ≤ maxLen) := by
  obtain ⟨m, hm⟩ := h
  obtain ⟨x, hk, h1, h2, h3, h4, _⟩ := o_th m m (by omega) H enc W _ held _ _ hm
  obtain ⟨nm, cl, td, ar, ⟨a4, n4, c4⟩, ⟨a5, n5, c5⟩, ⟨a6, n6, c6⟩⟩ := x
  obtain ⟨_, _, e, rfl, _, _, rfl, ⟨a1, c1, rfl, hl1, hC1⟩, _, _, rfl, ⟨a2, c2, rfl, hl2, hC2⟩, _, _, rfl, ⟨a3, c3, rfl, hl3, hC3⟩, _, _, rfl, rfl, _, _, rfl, rfl, rfl⟩ := hk
  refine ⟨⟨nm, a1, c1, a2, c2, a3, c3, a4, n4, c4, a5, n5, c5, a6, n6, c6⟩, ⟨cl, td, ar⟩, ?_, ⟨hC1, hl1, hC2, hl2, hC3, hl3, h2⟩, h1, h3, h4⟩
  have e' : cs.toList = (thyC ⟨nm, a1, c1, a2, c2, a3, c3, a4, n4, c4, a5, n5, c5, a6, n6, c6⟩ ⟨cl, td, ar⟩).toList := e
  exact congrArg Value.agg (Array.ext' e')
end Go.Proofs.YthfomoigaoffgaaGreat.Row
