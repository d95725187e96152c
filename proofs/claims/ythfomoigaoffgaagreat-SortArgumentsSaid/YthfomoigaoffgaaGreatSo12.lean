/- Walks of sort: Meet. -/
import Derived.Test.YthfomoigaoffgaaGreatSo11
import Derived.Deep.RegionWith
import Derived.Deep.CutRange
namespace Go.Proofs.YthfomoigaoffgaaGreat.So
open Go Go.RowKit Go.Shelf Go.Sort Go.Proofs.YthfomoigaoffgaaGreat.K Go.Proofs.YthfomoigaoffgaaGreat.G Go.Proofs.YthfomoigaoffgaaGreat.Ix Go.Proofs.YthfomoigaoffgaaGreat.O
set_option linter.unusedSimpArgs false
set_option linter.unusedVariables false

theorem least_any (S : Nat → Prop) (r : Raw) (T : Thy) (A : Option Addr) (n c base : Nat) (s : List ByteArray) (w : World) (hT : ThyR S w r T) (hS : ∀ k, S k → k < w.heap.size) (hm : Mine str base (fun _ => False) w (.slice A n c) s) (hl : s.length ≤ 1000000) (hss : ∀ x ∈ s, x.size ≤ maxLen) (hfew : (allSups T.cls).length ≤ 100000000) :
    Calls Tryz.prog 36 #[thyV r T, .slice A n c] w fun e w' => ∃ A' n' c', e = .returned (.slice A' n' c') ∧ n' = (leastB T.cls s).length ∧ Mine str w.heap.size (fun _ => False) w' (.slice A' n' c') (leastB T.cls s) ∧ Below w.heap.size w w' := by
  obtain ⟨rfl, hnc, hC⟩ := hm.read
  refine (least_calls S _ r T A c s w hT hS hC hl hss hfew).mono ?_
  rintro e w' ⟨v, rfl, hm', hb⟩
  obtain ⟨A', c', rfl, _⟩ := hm'.form
  exact ⟨A', _, c', rfl, rfl, hm', hb⟩
theorem below_drew {B : Nat} {w w' : World} (h : Below B w w') : Below B w w'.drew := ⟨h.os, h.tape, h.output, h.size, h.block⟩
end Go.Proofs.YthfomoigaoffgaaGreat.So
