/- Walks of the reference of sorts: under, put. -/
import Derived.Test.YthfomoigaoffgaaGreatRf3
import Derived.Deep.RegionHeld3
namespace Go.Proofs.YthfomoigaoffgaaGreat.Rf
open Go Go.RowKit Go.Proofs.YthfomoigaoffgaaGreat.K Go.Proofs.YthfomoigaoffgaaGreat.G Go.Proofs.YthfomoigaoffgaaGreat.Ix Go.Proofs.YthfomoigaoffgaaGreat.O Go.Proofs.YthfomoigaoffgaaGreat.So
set_option linter.unusedSimpArgs false
set_option linter.unusedVariables false

theorem has_idx {cs : List Cl} {a : ByteArray} (h : has cs a = true) : ∃ i, ∃ hi : i < cs.length, (cs[i]'hi).1 = a := by
  unfold has at h
  rw [List.any_eq_true] at h
  obtain ⟨c, hc, e⟩ := h
  obtain ⟨i, hi, rfl⟩ := List.mem_iff_getElem.1 hc
  exact ⟨i, hi, (beq_iff _ _).1 e⟩
theorem bool_cell {w : World} {g j : Nat} {l : List Bool} {t : TypeId} {b : Bool} (h : w.heap[g]? = some (.cells (boolsC l) t (0, 0))) (hb : l[j]? = some b) : w.cell? ⟨g, j, none⟩ = some (.bool b) := by
  rw [show w.cell? ⟨g, j, none⟩ = (boolsC l)[j]? by simp [World.cell?, h]]
  exact boolsC_at _ _ _ hb

/-- from w by W to w': what lay in W lies -/
def Kp (w W w' : World) : Prop := Below w.heap.size w w' ∧ ∀ (g : Nat) (o : Obj), W.heap[g]? = some o → w'.heap[g]? = some o
theorem kp_of {w W w' : World} (hb : Below w.heap.size w W) (h : Below W.heap.size W w') : Kp w W w' := ⟨hb.trans (h.mono hb.size), fun g o ho => box_below ho h⟩
theorem class_k (S : Nat → Prop) (r : Raw) (T : Thy) (w : World) (hT : ThyR S w r T) (nm : ByteArray) (W : World) (hb : Below w.heap.size w W) :
    Calls Tryz.prog 71 #[thyV r T, .string nm] W fun e w' => e = .returned (.int .i64 (cidx T.cls nm)) ∧ Kp w W w' :=
  (Class_calls S r T W (hT.below hb) nm).mono fun _ _ ⟨h1, h2⟩ => ⟨h1, kp_of hb h2⟩
theorem above_k (S : Nat → Prop) (r : Raw) (T : Thy) (w : World) (hT : ThyR S w r T) (hR : Right [] T.cls) (hn : T.cls.length ≤ 1000000) (i : Nat) (hi : i < T.cls.length) (W : World) (hb : Below w.heap.size w W) :
    Calls Tryz.prog 73 #[thyV r T, .int .i64 i] W fun e w' => e = .returned (.slice (some ⟨W.heap.size + 1, 0, none⟩) T.cls.length T.cls.length) ∧
      w'.heap[W.heap.size + 1]? = some (.cells (boolsC (abR T.cls (i + 1) ((List.replicate T.cls.length false).set i true))) 4 (0, 0)) ∧ Kp w W w' :=
  (above_calls S r T W (hT.below hb) hR hn i hi).mono fun _ _ ⟨h1, h3, h2⟩ => ⟨h1, h3, kp_of hb h2⟩

set_option maxRecDepth 100000 in
set_option maxHeartbeats 16000000 in
theorem under_calls (S : Nat → Prop) (r : Raw) (T : Thy) (w : World) (hT : ThyR S w r T) (hR : Right [] T.cls) (hn : T.cls.length ≤ 1000000) (a b : ByteArray) (ha : has T.cls a = true) (hb : has T.cls b = true) :
    Calls Tryz.prog 75 #[thyV r T, .string a, .string b] w fun e w' => e = .returned (.bool (belowB T.cls a b)) ∧ Below w.heap.size w w' := by
  obtain ⟨ia, hia, ea⟩ := has_idx ha
  obtain ⟨ib, hib, eb⟩ := has_idx hb
  have hca := cidx_at hR hia
  have hcb := cidx_at hR hib
  have hbl := abR_below hR hia hib
  rw [ea] at hca
  rw [eb] at hcb
  rw [ea, eb] at hbl
  have HCa := Lib.hid (class_k S r T w hT a)
  have HCb := Lib.hid (class_k S r T w hT b)
  have HAb := Lib.hid (above_k S r T w hT hR hn ia hia)
  rw [hca] at HCa
  rw [hcb] at HCb
  generalize belowB T.cls a b = R at hbl ⊢
  generalize abR T.cls (ia + 1) ((List.replicate T.cls.length false).set ia true) = L at hbl HAb
  have HBL := Lib.hid hbl
  have hb0 : (0 : Int) ≤ (ib : Int) := by omega
  have hbz : (ib : Int) < (T.cls.length : Int) := by omega
  have hag := Tryz.isAgg29
  have hsz := Tryz.sizeOf29
  obtain ⟨W1, hW1⟩ : ∃ W1, w.alloc (.cells (thyC r T) 29) = W1 := ⟨_, rfl⟩
  have hT1 : W1.heap[w.heap.size]? = some (.cells (thyC r T) 29 (0, 0)) := by rw [← hW1]; exact World.alloc_heap_new w _
  have HB := Lib.hid (show Below w.heap.size w W1 by rw [← hW1]; exact (Below.refl _ _).alloc (Nat.le_refl _) _)
  obtain ⟨x0, x1, x2, x3, x4, x5, x6⟩ := thy_cells' hT1
  have HT := Lib.hid hT1
  clear hca hcb hbl ha hb ea eb hT hR hT1 hia hib
  unfold thyV thyC at HCa HCb HAb
  unfold thyV
  unfold thyC at hW1 ⊢
  go_enter Tryz.func75, Tryz.ntmps75
  go_wp2
  clear hW1
  have HW0 : Hid (Below w.heap.size w W1) := HB
  go_region_with
    (first
      | (go_at_call 71
         (with_reducible refine (HCa.out _ ?_).mono ?_)
         (first | exact HB.out | exact below_drew1 HB.out)
         rintro e w5 ⟨rfl, hb5, hk5⟩
         have HB := Lib.hid hb5
         have HT := Lib.hid (hk5 _ _ HT.out)
         obtain ⟨x0, x1, x2, x3, x4, x5, x6⟩ := thy_cells' HT.out
         try (have HG := Lib.hid (hk5 _ _ HG.out)
              have hq := bool_cell HG.out HBL.out)
         clear hb5 hk5)
      | (go_at_call 71
         (with_reducible refine (HCb.out _ ?_).mono ?_)
         (first | exact HB.out | exact below_drew1 HB.out)
         rintro e w5 ⟨rfl, hb5, hk5⟩
         have HB := Lib.hid hb5
         have HT := Lib.hid (hk5 _ _ HT.out)
         obtain ⟨x0, x1, x2, x3, x4, x5, x6⟩ := thy_cells' HT.out
         try (have HG := Lib.hid (hk5 _ _ HG.out)
              have hq := bool_cell HG.out HBL.out)
         clear hb5 hk5)
      | (go_at_call 73
         (with_reducible refine (HAb.out _ ?_).mono ?_)
         (first | exact HB.out | exact below_drew1 HB.out)
         rintro e w5 ⟨rfl, hg5, hb5, hk5⟩
         have HB := Lib.hid hb5
         have HT := Lib.hid (hk5 _ _ HT.out)
         obtain ⟨x0, x1, x2, x3, x4, x5, x6⟩ := thy_cells' HT.out
         have HG := Lib.hid hg5
         have hq := bool_cell HG.out HBL.out
         clear hb5 hk5 hg5))
  all_goals
    go_wp2
    go_ret
    exact ⟨rfl, HB.out⟩
end Go.Proofs.YthfomoigaoffgaaGreat.Rf
