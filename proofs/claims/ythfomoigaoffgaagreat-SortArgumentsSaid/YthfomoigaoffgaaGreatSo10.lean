/- Walks of sort: Within; slices.Concat. -/
import Derived.Test.YthfomoigaoffgaaGreatSo9
import Derived.Lib.AppendZeros
namespace Go.Proofs.YthfomoigaoffgaaGreat.So
open Go Go.RowKit Go.Shelf Go.Sort Go.Proofs.YthfomoigaoffgaaGreat.K Go.Proofs.YthfomoigaoffgaaGreat.G Go.Proofs.YthfomoigaoffgaaGreat.Ix Go.Proofs.YthfomoigaoffgaaGreat.O
set_option linter.unusedSimpArgs false
set_option linter.unusedVariables false

theorem w11_calls (S : Nat → Prop) (r : Raw) (T : Thy) (bt bc : Nat) (c d : ByteArray) (W : World) (hT : AbT S r T bt bc c W) (hd : d.size ≤ maxLen) (hfew : (allSups T.cls).length ≤ 100000000) :
    Calls Tryz.prog 86 #[.string d, .pointer (some ⟨bt, 0, none⟩), .pointer (some ⟨bc, 0, none⟩)] W fun e W' => e = .returned (.bool (belowB T.cls d c)) ∧ Below W.heap.size W W' := by
  obtain ⟨z0, z1, z2, z3, z4, z5, z6⟩ := thy_cells hT.box
  have hag := Tryz.isAgg29
  have hsz := Tryz.sizeOf29
  have hc := hT.nm
  have HB := Lib.hid (below_calls S r T d c W hT.thy hd hfew)
  clear hT
  generalize belowB T.cls d c = R at HB ⊢
  go_enter Tryz.func86, Tryz.ntmps86
  go_wp2_with (go_at_call 65; refine HB.out.mono ?_; rintro e w' ⟨rfl, hb⟩)
  go_ret
  exact ⟨rfl, hb⟩
theorem w1_calls (S Sa : Nat → Prop) (r : Raw) (T : Thy) (bt ba : Nat) (Aa : Option Addr) (ca : Nat) (al : List ByteArray) (c : ByteArray) (W : World) (hT : ThyR S W r T) (hbt : W.heap[bt]? = some (.cells (thyC r T) 29 (0, 0))) (hba : W.cell? ⟨ba, 0, none⟩ = some (.slice Aa al.length ca)) (hC : C str Sa W Aa al) (hca : al.length ≤ ca)
    (hal : ∀ x ∈ al, x.size ≤ maxLen) (hfew : (allSups T.cls).length ≤ 100000000) :
    Calls Tryz.prog 85 #[.string c, .pointer (some ⟨ba, 0, none⟩), .pointer (some ⟨bt, 0, none⟩)] W fun e W' => e = .returned (.bool (!(al.any fun d => belowB T.cls d c))) ∧ Below W.heap.size W W' := by
  have hbx : Below W.heap.size W (W.alloc (.cells #[.string c] 9)) := (Below.refl _ _).alloc (Nat.le_refl _) _
  have hcc : (W.alloc (.cells #[.string c] 9)).cell? ⟨W.heap.size, 0, none⟩ = some (.string c) := cell_at _ _ _ _ rfl
  have hba1 := (cell_old W (.cells #[.string c] 9) ba 0 (lt_of_cell hba)).trans hba
  have HC := Lib.hid (ContainsFunc_string str Sa rfl (fun d => belowB T.cls d c) 86 #[.pointer (some ⟨bt, 0, none⟩), .pointer (some ⟨W.heap.size, 0, none⟩)] (enters_of Tryz.func86 (by kernel_rfl) rfl) Aa ca al
    (W.alloc (.cells #[.string c] 9))
    (fun W' x cs hx hb hK => by
      obtain rfl : cs = [.string x] := hK
      exact w11_calls S r T bt W.heap.size c x W' ⟨(hT.below hbx).below hb, (hb.block _ (by have := (Array.getElem?_eq_some_iff.1 hbt).1; simp; omega)).trans ((hbx.block _ (Array.getElem?_eq_some_iff.1 hbt).1).trans hbt), (hb.cell (p := ⟨W.heap.size, 0, none⟩) (by simp)).trans hcc⟩ (hal x hx) hfew) (hC.below hbx) hca)
  generalize (al.any fun d => belowB T.cls d c) = R at HC ⊢
  clear hT hbt hC hcc hba
  go_enter Tryz.func85, Tryz.ntmps85
  go_wp2_with (go_at_call 33; refine HC.out.mono ?_; rintro e w' ⟨rfl, hb⟩)
  go_ret
  exact ⟨rfl, hbx.trans (hb.mono (by simp))⟩
set_option maxRecDepth 100000 in
set_option maxHeartbeats 4000000 in
theorem within_calls (S Sa Sb : Nat → Prop) (r : Raw) (T : Thy) (Aa Ab : Option Addr) (ca cb : Nat) (a b : List ByteArray) (w : World) (hT : ThyR S w r T) (ha : C str Sa w Aa a) (hca : a.length ≤ ca) (hb : C str Sb w Ab b) (hcb : b.length ≤ cb)
    (hal : ∀ x ∈ a, x.size ≤ maxLen) (hfew : (allSups T.cls).length ≤ 100000000) :
    Calls Tryz.prog 69 #[thyV r T, .slice Aa a.length ca, .slice Ab b.length cb] w fun e w' => e = .returned (.bool (withinB T.cls a b)) ∧ Below w.heap.size w w' := by
  obtain ⟨W1, hW1⟩ : ∃ W1, (w.alloc (.cells (thyC r T) 29)).alloc (.cells #[.slice Aa a.length ca] 27) = W1 := ⟨_, rfl⟩
  have hb1 : Below w.heap.size w W1 := by rw [← hW1]; exact ((Below.refl _ _).alloc (Nat.le_refl _) _).alloc (by simp) _
  have hs1 : W1.heap.size = w.heap.size + 2 := by rw [← hW1]; simp
  have hba : W1.cell? ⟨w.heap.size + 1, 0, none⟩ = some (.slice Aa a.length ca) := by rw [← hW1]; exact cells_at _ _ _ _ 0 (by simp)
  have hth : W1.heap[w.heap.size]? = some (.cells (thyC r T) 29 (0, 0)) := by rw [← hW1]; exact (Below.heap_alloc _ _ _ (by simp)).trans (World.alloc_heap_new w _)
  have hT1 := hT.below hb1
  have ha1 := ha.below hb1
  have HC := Lib.hid (ContainsFunc_string str Sb rfl (fun c => !(a.any fun d => belowB T.cls d c)) 85 #[.pointer (some ⟨w.heap.size + 1, 0, none⟩), .pointer (some ⟨w.heap.size, 0, none⟩)] (enters_of Tryz.func85 (by kernel_rfl) rfl) Ab cb b W1
    (fun W' x cs hx hb' hK => by
      obtain rfl : cs = [.string x] := hK
      exact w1_calls S Sa r T w.heap.size (w.heap.size + 1) Aa ca a x W' (hT1.below hb') ((hb'.block _ (by omega)).trans hth) ((hb'.cell (p := ⟨w.heap.size + 1, 0, none⟩) (by show w.heap.size + 1 < _; omega)).trans hba) (ha1.below hb') hca hal hfew) (hb.below hb1) hcb)
  have hw : withinB T.cls a b = !(b.any fun c => !(a.any fun d => belowB T.cls d c)) := by unfold withinB; rw [List.all_eq_not_any_not]
  rw [hw]
  generalize (b.any fun c => !(a.any fun d => belowB T.cls d c)) = R at HC ⊢
  have HB1 := Lib.hid hb1
  clear hw hT hT1 ha ha1 hb hba hth hb1 hs1
  subst hW1
  unfold thyV
  go_enter Tryz.func69, Tryz.ntmps69
  unfold thyC at HC HB1 ⊢
  go_wp2_with (go_at_call 33; refine HC.out.mono ?_; rintro e w' ⟨rfl, hb⟩)
  go_ret
  exact ⟨rfl, HB1.out.trans (hb.mono HB1.out.size)⟩

/-! ### Concat -/
theorem append_none {P : Program} (w : World) (t ty e : TypeId) (i : TypeInfo) (ht : P.underlying t = some (.slice e)) (hi : P.info? e = some i) (A B : Option Addr) (n cap c : Nat) (h : n ≤ cap) :
    (Builtin.append_ #[t, t] ty #[.slice A n cap, .slice B 0 c]).run P w = .ok (.slice A n cap) w := by
  cases A <;> cases B <;> simp [Builtin.append_, run_underlying ht, sizeOf, typeInfo, hi, Builtin.lenOf, h, storeCells, Result.andThen, go_sem]
theorem append_str {base : Nat} {S : Nat → Prop} {w : World} {v : Value} {xs ys : List ByteArray} {A : Option Addr} {c : Nat} (h : Mine str base (fun _ => False) w v xs) (hC : C str S w A ys) (hl : xs.length + ys.length ≤ 1000000) (hbase : base ≤ w.heap.size) :
    ∃ A' n' c' w', (Builtin.append_ #[27, 27] 27 #[v, .slice A ys.length c]).run Tryz.prog w = .ok (.slice A' n' c') w' ∧ Mine str base (fun _ => False) w' (.slice A' n' c') (xs ++ ys) ∧ w.grownBy w' v.ownBlock := by
  obtain ⟨i0, hi0, hz0, hz1, hz2⟩ := info_parts infoStr
  by_cases hy : ys = []
  · subst hy
    obtain ⟨A1, cap, rfl, hle⟩ := h.form
    exact ⟨A1, _, cap, w, append_none w _ _ _ i0 Tryz.underlying27 hi0 A1 A _ cap c hle, by rw [List.append_nil]; exact h, World.grownBy.refl w _⟩
  · obtain ⟨b, o, rfl, _, _, _⟩ := hC.2 hy
    have hrow : ∀ j x, ys[j]? = some x → w.cell? ⟨b, o + j, none⟩ = some (.string x) := fun j x hj => by
      obtain ⟨hj1, e⟩ := List.getElem?_eq_some_iff.1 hj
      obtain ⟨b', o', e', _, _, hc⟩ := str_at hC j hj1
      simp only [Option.some.injEq, Addr.mk.injEq, and_true] at e'
      obtain ⟨rfl, rfl⟩ := e'
      rw [hc, e]
    obtain ⟨v', w', hrun, ho, hg, _⟩ := h.append (P := Tryz.prog) (t := 27) (ty := 27) (bytes := 16) (c2 := c) Tryz.underlying27 hi0 hz0 hz1 hz2 rfl (by decide) rfl hy (scalar_cells hrow) (by unfold maxLen; omega) (by omega) hbase
    obtain ⟨A', c', rfl, _⟩ := ho.form
    exact ⟨A', _, c', w', hrun, ho, hg⟩

end Go.Proofs.YthfomoigaoffgaaGreat.So
