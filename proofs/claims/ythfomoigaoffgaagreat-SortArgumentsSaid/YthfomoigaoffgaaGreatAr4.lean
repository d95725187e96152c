/- Walks of sort.Check, sort.Below. -/
import Derived.Test.YthfomoigaoffgaaGreatAr3
namespace Go.Proofs.YthfomoigaoffgaaGreat.Ch
open Go Go.RowKit Go.Proofs.YthfomoigaoffgaaGreat.K Go.Proofs.YthfomoigaoffgaaGreat.G Go.Proofs.YthfomoigaoffgaaGreat.Ix Go.Proofs.YthfomoigaoffgaaGreat.O Go.Proofs.YthfomoigaoffgaaGreat.So
set_option linter.unusedSimpArgs false
set_option linter.unusedVariables false

/-- how large the arities of a theory may be -/
def ArsS (T : Thy) : Prop := (∀ d ∈ T.tys, d.1.size ≤ maxLen) ∧ (∀ a ∈ T.ars, a.1.size ≤ maxLen ∧ a.2.1.size ≤ maxLen ∧ a.2.2.length ≤ 1000000 ∧ ∀ s ∈ a.2.2, s.length ≤ 1000000 ∧ ∀ x ∈ s, x.size ≤ maxLen) ∧ (allSups T.cls).length ≤ 100000000

set_option maxRecDepth 100000 in
set_option maxHeartbeats 2000000 in
theorem Check_calls (S : Nat → Prop) (r : Raw) (T : Thy) (w : World) (hT : ThyR S w r T) (hs : ArsS T) :
    Calls Tryz.prog 19 #[thyV r T] w fun e w' => e = .returned (.int .i64 (checkT T.cls T.tys T.ars)) ∧ Below w.heap.size w w' := by
  have hag := Tryz.isAgg29
  have hsz := Tryz.sizeOf29
  obtain ⟨W1, hW1⟩ : ∃ W1, w.alloc (.cells (thyC r T) 29) = W1 := ⟨_, rfl⟩
  have hT1 : W1.heap[w.heap.size]? = some (.cells (thyC r T) 29 (0, 0)) := by rw [← hW1]; exact World.alloc_heap_new w _
  have hb1 : Below w.heap.size w W1 := by rw [← hW1]; exact (Below.refl _ _).alloc (Nat.le_refl _) _
  obtain ⟨y0, y1, y2, y3, y4, y5, y6⟩ := thy_cells hT1
  have HCl := Lib.hid (So.classes_calls S r T W1 (hT.below hb1))
  have HCt := Lib.hid (fun (W : World) (hb : Below w.heap.size w W) => constructors_calls S r T W (hT.below hb) hs.1)
  have HAr := Lib.hid (fun (W : World) (hb : Below w.heap.size w W) mb (hm : MapIs W mb (tyP T.tys)) => arities_calls S r T W mb (hT.below hb) hm hs.2.1 hs.2.2)
  have HT1 := Lib.hid hT1
  have HB1 := Lib.hid hb1
  unfold checkT
  generalize classesE T.cls = E1 at HCl ⊢
  generalize constrE T.tys = E2 at HCt ⊢
  generalize aritiesE T.cls T.tys T.ars = E3 at HAr ⊢
  generalize hR : (if E1 ≠ 0 then E1 else if E2 ≠ 0 then E2 else E3) = R
  have HR := Lib.hid hR
  clear hT hs hT1 hb1 hR
  unfold thyV thyC at HCl HCt HAr
  unfold thyV
  unfold thyC at hW1 ⊢
  go_enter Tryz.func19, Tryz.ntmps19
  go_wp2_with fail
  refine HCl.out.mono ?_
  rintro e w2 ⟨rfl, hb2⟩
  have HB2 := Lib.hid (HB1.out.trans (hb2.mono HB1.out.size))
  have HT2 := Lib.hid (Rf.box_below HT1.out hb2)
  obtain ⟨z0, z1, z2, z3, z4, z5, z6⟩ := thy_cells HT2.out
  clear hb2 hW1 y0 y1 y2 y3 y4 y5 y6 HT1
  by_cases h1 : E1 = 0
  · subst h1
    have hR := HR.out
    rw [if_neg (by decide)] at hR
    have HR := Lib.hid hR
    clear hR
    go_wp2_with fail
    refine (HCt.out _ HB2.out).mono ?_
    rintro e w3 ⟨⟨v, rfl, hm⟩, hb3⟩
    have HB3 := Lib.hid (HB2.out.trans (hb3.mono HB2.out.size))
    have HT3 := Lib.hid (Rf.box_below HT2.out hb3)
    have HM := Lib.hid hm
    clear hb3 z0 z1 z2 z3 z4 z5 z6 HT2 hm
    by_cases h2 : E2 = 0
    · subst h2
      have hR := HR.out
      rw [if_neg (by decide)] at hR
      obtain rfl : E3 = R := hR
      obtain ⟨b, rfl, _, hm⟩ := HM.out rfl
      have HA3 := Lib.hid (HAr.out _ HB3.out b hm)
      obtain ⟨z0, z1, z2, z3, z4, z5, z6⟩ := thy_cells HT3.out
      clear hm HM HR HT3
      go_wp2_with fail
      refine HA3.out.mono ?_
      rintro e w4 ⟨rfl, hb4⟩
      have HB4 := Lib.hid (HB3.out.trans (hb4.mono HB3.out.size))
      clear hb4
      go_wp2
      go_ret
      exact ⟨rfl, HB4.out⟩
    · have hR := HR.out
      rw [if_pos h2] at hR
      obtain rfl : E2 = R := hR
      have g : (E2 != 0) = true := bne_iff_ne.2 h2
      clear h2 HM HR
      go_wp2
      go_ret
      exact ⟨rfl, HB3.out⟩
  · have hR := HR.out
    rw [if_pos h1] at hR
    obtain rfl : E1 = R := hR
    have g : (E1 != 0) = true := bne_iff_ne.2 h1
    clear h1 HR
    go_wp2
    go_ret
    exact ⟨rfl, HB2.out⟩

/-- what Below answers -/
def belowT (cs : List Cl) (a b : ByteArray) : Bool := decide (classesE cs = 0) && has cs a && has cs b && belowB cs a b
end Go.Proofs.YthfomoigaoffgaaGreat.Ch
