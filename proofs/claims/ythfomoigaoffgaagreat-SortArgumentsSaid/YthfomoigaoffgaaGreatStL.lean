/- The state of a law of sort with its rows; calls in it. -/
import Derived.Test.YthfomoigaoffgaaGreatSo15x
import Derived.Deep.RegionWith
import Derived.Deep.CutRange
namespace Go.Proofs.YthfomoigaoffgaaGreat.So
open Go Go.RowKit Go.Shelf Go.Sort Go.Proofs.YthfomoigaoffgaaGreat.K Go.Proofs.YthfomoigaoffgaaGreat.G Go.Proofs.YthfomoigaoffgaaGreat.Ix Go.Proofs.YthfomoigaoffgaaGreat.O
set_option linter.unusedSimpArgs false
set_option linter.unusedVariables false

abbrev RowL := List (Option Addr × Nat × List ByteArray)
/-- rows that lie in a world and fit the laws' bounds -/
def RowsAt (W : World) (l : RowL) : Prop := ∀ x ∈ l, C str Any W x.1 x.2.2 ∧ x.2.2.length ≤ x.2.1 ∧ x.2.2.length ≤ 1000 ∧ ∀ y ∈ x.2.2, y.size ≤ maxLen
structure St2 (w : World) (r : Raw) (T : Thy) (l : RowL) (W : World) : Prop where
  st : St w r T W
  thy : ThyR Any W r T
  rows : RowsAt W l
theorem St2.step {w W W' : World} {r : Raw} {T : Thy} {l : RowL} (h : St2 w r T l W) (hb : Below W.heap.size W W') : St2 w r T l W' := ⟨h.st.step hb, h.thy.below hb, fun x hx => ⟨(h.rows x hx).1.below hb, (h.rows x hx).2⟩⟩
theorem St2.add {w W : World} {r : Raw} {T : Thy} {l : RowL} (h : St2 w r T l W) {A : Option Addr} {c : Nat} {s : List ByteArray} (hC : C str Any W A s) (hc : s.length ≤ c) (hl : s.length ≤ 1000) (hs : ∀ y ∈ s, y.size ≤ maxLen) : St2 w r T ((A, c, s) :: l) W := ⟨h.st, h.thy, fun x hx => by
  rcases List.mem_cons.1 hx with rfl | hx
  · exact ⟨hC, hc, hl, hs⟩
  · exact h.rows x hx⟩
theorem norm_anyL {w W : World} {r : Raw} {T : Thy} {l : RowL} (hfew : (allSups T.cls).length ≤ 100000000) (A : Option Addr) (c : Nat) (s : List ByteArray) (h1 : (A, c, s) ∈ l) (hl : s.length ≤ 25) {L : List ByteArray} {er : Int} (hN : normB T.cls s = (L, er)) (h : St2 w r T l W) :
    Calls Tryz.prog 17 #[.agg #[.string r.nm, .slice r.a1 T.cls.length r.c1, .slice r.a2 T.tys.length r.c2, .slice r.a3 T.ars.length r.c3, .slice r.a4 r.n4 r.c4, .slice r.a5 r.n5 r.c5, .slice r.a6 r.n6 r.c6], .slice A s.length c] W fun e W' => ∃ A' c', e = .returned (.tuple #[.slice A' L.length c', .int .i64 er]) ∧ St2 w r T ((A', c', L) :: l) W' := by
  obtain ⟨k1, k2, k3, k4⟩ := h.rows _ h1
  refine (normal_any h.thy k1 rfl k2 hl k4 hfew hN).mono ?_
  rintro e W' ⟨A', c', rfl, hC, hc, hb⟩
  obtain ⟨n1, n2⟩ := norm_small hN k4
  exact ⟨A', c', rfl, (h.step hb).add hC hc (by omega) n1⟩
theorem meet_small {cs : List Cl} {a b M : List ByteArray} {er : Int} (h : meetB cs a b = (M, er)) (ha : ∀ x ∈ a, x.size ≤ maxLen) (hb : ∀ x ∈ b, x.size ≤ maxLen) : (∀ x ∈ M, x.size ≤ maxLen) ∧ M.length ≤ a.length + b.length := by
  unfold meetB at h
  split at h
  · cases h; exact ⟨fun x hx => absurd hx List.not_mem_nil, Nat.zero_le _⟩
  · split at h
    · cases h; exact ⟨fun x hx => absurd hx List.not_mem_nil, Nat.zero_le _⟩
    · split at h
      · cases h; exact ⟨fun x hx => absurd hx List.not_mem_nil, Nat.zero_le _⟩
      · cases h
        refine ⟨fun x hx => ?_, by have := least_len (cs := cs) (s := a ++ b); rwa [List.length_append] at this⟩
        rcases List.mem_append.1 (least_sub hx) with h | h
        · exact ha x h
        · exact hb x h
theorem awake_any {w W : World} {r : Raw} {T : Thy} {l : RowL} (h : St2 w r T l W) : Calls Tryz.prog 7 #[] W fun e W' => e = .returned (.bool true) ∧ St2 w r T l W' := (awake_calls W).mono (fun e W' ⟨he, hb⟩ => ⟨he, h.step hb⟩)

end Go.Proofs.YthfomoigaoffgaaGreat.So
