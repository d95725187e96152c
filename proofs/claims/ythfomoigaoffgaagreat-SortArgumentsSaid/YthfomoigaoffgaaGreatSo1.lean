/- Walks of sort: the theory as it lies in memory; has. -/
import Derived.Test.YthfomoigaoffgaaGreatIx
import Derived.Test.YthfomoigaoffgaaGreatOw
import Derived.Test.YthfomoigaoffgaaGreatOa
import Derived.Deep.QuietTactic
import Derived.BigQuiet
import Derived.RegionTactic
namespace Go.Proofs.YthfomoigaoffgaaGreat.So
open Go Go.RowKit Go.Proofs.YthfomoigaoffgaaGreat.K Go.Proofs.YthfomoigaoffgaaGreat.G Go.Proofs.YthfomoigaoffgaaGreat.Ix Go.Proofs.YthfomoigaoffgaaGreat.O
set_option linter.unusedSimpArgs false
set_option linter.unusedVariables false

def kCl : Rd Cl := pair str (slice str)
def kTd : Rd (ByteArray × Int) := pair str (int .i64)
abbrev Ar := ByteArray × ByteArray × List (List ByteArray)
def kAr : Rd Ar := pair str (pair str (slice (slice str)))
/-- what a theory's classes, constructors and arities are -/
structure Thy where
  cls : List Cl
  tys : List (ByteArray × Int)
  ars : List Ar
/-- where they lie -/
structure Raw where
  nm : ByteArray
  a1 : Option Addr
  c1 : Nat
  a2 : Option Addr
  c2 : Nat
  a3 : Option Addr
  c3 : Nat
  a4 : Option Addr
  n4 : Nat
  c4 : Nat
  a5 : Option Addr
  n5 : Nat
  c5 : Nat
  a6 : Option Addr
  n6 : Nat
  c6 : Nat
def thyC (r : Raw) (T : Thy) : Array Value := #[.string r.nm, .slice r.a1 T.cls.length r.c1, .slice r.a2 T.tys.length r.c2, .slice r.a3 T.ars.length r.c3, .slice r.a4 r.n4 r.c4, .slice r.a5 r.n5 r.c5, .slice r.a6 r.n6 r.c6]
def thyV (r : Raw) (T : Thy) : Value := .agg (thyC r T)
structure ThyR (S : Nat → Prop) (w : World) (r : Raw) (T : Thy) : Prop where
  cls : C kCl S w r.a1 T.cls
  clsc : T.cls.length ≤ r.c1
  tys : C kTd S w r.a2 T.tys
  tysc : T.tys.length ≤ r.c2
  ars : C kAr S w r.a3 T.ars
  arsc : T.ars.length ≤ r.c3
  small : ∀ c ∈ T.cls, c.1.size ≤ maxLen ∧ ∀ s ∈ c.2, s.size ≤ maxLen
theorem ThyR.below {S : Nat → Prop} {w w' : World} {r : Raw} {T : Thy} (h : ThyR S w r T) (hb : Below w.heap.size w w') : ThyR S w' r T := ⟨h.cls.below hb, h.clsc, h.tys.below hb, h.tysc, h.ars.below hb, h.arsc, h.small⟩
theorem ThyR.mono {S S' : Nat → Prop} {w : World} {r : Raw} {T : Thy} (h : ThyR S w r T) (hm : ∀ k, S k → S' k) : ThyR S' w r T := ⟨h.cls.mono hm, h.clsc, h.tys.mono hm, h.tysc, h.ars.mono hm, h.arsc, h.small⟩
theorem ThyR.bound {S : Nat → Prop} {w : World} {r : Raw} {T : Thy} (h : ThyR S w r T) : ThyR (fun k => S k ∧ k < w.heap.size) w r T := ⟨h.cls.bound, h.clsc, h.tys.bound, h.tysc, h.ars.bound, h.arsc, h.small⟩
theorem ThyR.chg {S T' : Nat → Prop} {w w' : World} {r : Raw} {T : Thy} (h : ThyR S w r T) (hc : Chg T' w w') (hn : ∀ k, S k → k < w.heap.size → ¬ T' k) : ThyR S w' r T := ⟨h.cls.chg hc hn, h.clsc, h.tys.chg hc hn, h.tysc, h.ars.chg hc hn, h.arsc, h.small⟩
theorem kCl_open {S : Nat → Prop} {w : World} {x : Cl} {cs : List Value} (h : kCl.K S w x cs) : ∃ A c, cs = [.string x.1, .slice A x.2.length c] ∧ x.2.length ≤ c ∧ C str S w A x.2 := by
  obtain ⟨c1, c2, rfl, rfl, A, c, rfl, hl, hC⟩ := h
  exact ⟨A, c, rfl, hl, hC⟩
theorem kTd_open {S : Nat → Prop} {w : World} {x : ByteArray × Int} {cs : List Value} (h : kTd.K S w x cs) : cs = [.string x.1, .int .i64 x.2] := by
  obtain ⟨c1, c2, rfl, rfl, rfl⟩ := h
  rfl
theorem kAr_open {S : Nat → Prop} {w : World} {x : Ar} {cs : List Value} (h : kAr.K S w x cs) : ∃ A c, cs = [.string x.1, .string x.2.1, .slice A x.2.2.length c] ∧ x.2.2.length ≤ c ∧ C (slice str) S w A x.2.2 := by
  obtain ⟨c1, c2, rfl, rfl, c3, c4, rfl, rfl, A, c, rfl, hl, hC⟩ := h
  exact ⟨A, c, rfl, hl, hC⟩
theorem str_at {S : Nat → Prop} {w : World} {A : Option Addr} {l : List ByteArray} (h : C str S w A l) (j : Nat) (hj : j < l.length) : ∃ b o, A = some ⟨b, o, none⟩ ∧ S b ∧ b < w.heap.size ∧ w.cell? ⟨b, o + j, none⟩ = some (.string (l[j]'hj)) := by
  obtain ⟨b, o, cs, e, hs, hb, rfl, hc⟩ := h.at_ j hj
  have e1 : str.sz = 1 := rfl
  have := hc 0 _ rfl
  rw [e1, Nat.mul_one, Nat.add_zero] at this
  exact ⟨b, o, e, hs, hb, this⟩
theorem str_eq (a b : ByteArray) : (a.toList == b.toList) = (a == b) := by
  rw [Lib.toList_data, Lib.toList_data, Bool.eq_iff_iff, beq_iff_eq, beq_iff]
  constructor
  · intro h; exact ByteArray.ext (Array.ext' h)
  · intro h; rw [h]
theorem str_lt (a b : ByteArray) : Op.bytesLess a.toList b.toList = less a b := by unfold less; rw [Lib.toList_data, Lib.toList_data]

theorem has1_calls (S : Nat → Prop) (nm : ByteArray) (B : Nat) (W : World) (x : Cl) (cs : List Value) (hB : W.cell? ⟨B, 0, none⟩ = some (.string nm)) (hK : kCl.K S W x cs) :
    Calls Tryz.prog 56 #[aggV cs, .pointer (some ⟨B, 0, none⟩)] W fun e W' => e = .returned (.bool (x.1 == nm)) ∧ Below W.heap.size W W' := by
  obtain ⟨A, c, rfl, _, _⟩ := kCl_open hK
  have hlt := lt_of_cell hB
  have hB' := (cell_old W (.cells #[.string x.1, .slice A x.2.length c] 48) B 0 hlt).trans hB
  have HE := Lib.hid (str_eq x.1 nm)
  unfold aggV
  clear hK hB
  go_enter Tryz.func56, Tryz.ntmps56
  go_wp2
  go_ret
  exact ⟨by rw [HE.out]; rfl, (Below.refl _ _).alloc (Nat.le_refl _) _⟩

theorem has_calls (S : Nat → Prop) (r : Raw) (T : Thy) (w : World) (h : ThyR S w r T) (nm : ByteArray) :
    Calls Tryz.prog 35 #[thyV r T, .string nm] w fun e w' => e = .returned (.bool (has T.cls nm)) ∧ Below w.heap.size w w' := by
  have hbx : Below w.heap.size w ((w.alloc (.cells (thyC r T) 29)).alloc (.cells #[.string nm] 9)) := ((Below.refl _ _).alloc (Nat.le_refl _) _).alloc (by simp) _
  have HC := Lib.hid (ContainsFunc_apiClass kCl S Tryz.sizeOf48 (fun c => c.1 == nm) 56 #[.pointer (some ⟨w.heap.size + 1, 0, none⟩)] (enters_of Tryz.func56 (by kernel_rfl) rfl) r.a1 r.c1 T.cls
    ((w.alloc (.cells (thyC r T) 29)).alloc (.cells #[.string nm] 9))
    (fun W x cs _ hb hK => has1_calls S nm (w.heap.size + 1) W x cs ((hb.cell (p := ⟨w.heap.size + 1, 0, none⟩) (by simp)).trans (by rw [← World.size_alloc w (.cells (thyC r T) 29)]; exact cell_at _ _ _ _ rfl)) hK) (h.cls.below hbx) h.clsc)
  unfold thyC at HC
  unfold thyV thyC has
  clear h hbx
  generalize T.cls.any (fun c => c.1 == nm) = r0 at HC ⊢
  go_enter Tryz.func35, Tryz.ntmps35
  go_wp2_with (go_at_call 55; refine HC.out.mono ?_; rintro e w' ⟨rfl, hb⟩)
  go_ret
  exact ⟨rfl, (((Below.refl _ _).alloc (Nat.le_refl _) _).alloc (by simp) _).trans (hb.mono (by simp; omega))⟩
end Go.Proofs.YthfomoigaoffgaaGreat.So
