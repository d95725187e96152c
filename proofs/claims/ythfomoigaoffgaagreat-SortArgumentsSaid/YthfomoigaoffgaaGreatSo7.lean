/- Walks: slices.Values, Collect, SortedFunc, Compact, Clone at strings. -/
import Derived.Test.YthfomoigaoffgaaGreatSo6
import Derived.Test.YthfomoigaoffgaaGreatSo2
import Derived.Sort.LoopGhostIn
namespace Go.Proofs.YthfomoigaoffgaaGreat.So
open Go Go.RowKit Go.Shelf Go.Sort Go.Lib Go.Proofs.YthfomoigaoffgaaGreat.K Go.Proofs.YthfomoigaoffgaaGreat.G Go.Proofs.YthfomoigaoffgaaGreat.Ix Go.Proofs.YthfomoigaoffgaaGreat.O
set_option linter.unusedSimpArgs false
set_option linter.unusedVariables false
attribute [local go_sem] Oper.semAt_some

def ValEnd (R : List ByteArray) (J Jx : List ByteArray → (Nat → Prop) → World → Prop) (e : Ending) (W : World) : Prop :=
  (∃ v, e = .returned v ∧ ((∃ xs M, xs = R ∧ J xs M W) ∨ (∃ pre M, pre <+: R ∧ Jx pre M W))) ∨ ∃ chain pre M, e = .panicked chain ∧ False ∧ J pre M W

set_option maxRecDepth 100000 in
set_option maxHeartbeats 4000000 in
theorem values_iter (S : Nat → Prop) (bv : Nat) (A : Option Addr) (c : Nat) (l : List ByteArray) (w : World) (hbv : w.cell? ⟨bv, 0, none⟩ = some (.slice A l.length c)) (hC : C str S w A l) (hS : ∀ k, S k → k < w.heap.size) :
    IterAt Tryz.prog 80 #[.pointer (some ⟨bv, 0, none⟩)] (fun x => #[Value.string x]) (fun xs => xs = l) (fun pre => pre <+: l) (fun _ _ => False) l.length (fun k => k ≠ bv ∧ ¬ S k) w := by
  intro bl0 M0 J Jx hM0 hJ hJx hJM hY h0
  have hlm : l.length ≤ 9223372036854775807 := hC.len
  have HY := Lib.hid hY
  have HJ := Lib.hid hJ
  have HJM := Lib.hid hJM
  have HSS := Lib.hid hS
  have HM0 : Hid (∀ k, M0 k → ¬ S k) := Lib.hid (fun k hk => (hM0 k hk).2)
  have HC := Lib.hid hC
  have HJ0 := Lib.hid h0
  clear hY hJ hJx hJM hM0 hC h0 hS
  change CallsIn _ _ _ _ _ _ (ValEnd l J Jx)
  refine callsIn_of_wp Tryz.func80 rfl trivial ?_ rfl
  simp only [Tryz.ntmps80, List.size_toArray, List.length_cons, List.length_nil, Nat.reduceAdd, Nat.reduceSub, Array.replicate_succ, Array.replicate_zero, List.push_toArray, List.append_toArray, List.nil_append, List.cons_append]
  gi_wp2
  gi_loopg [7] l.length (fun gg v wr => ∃ (k : Nat) (M : Nat → Prop), v = .int .i64 k ∧ k ≤ l.length ∧ l.length - k ≤ gg ∧ Hid (J (l.take k) M wr) ∧ Hid (∀ k, M k → ¬ S k) ∧ Hid (C str S wr A l) ∧ w.heap.size ≤ wr.heap.size)
  case atStart => exact ⟨0, M0, rfl, by omega, by omega, by simpa using HJ0, HM0, HC, Nat.le_refl _⟩
  case round =>
    clear HJ0 HM0 HC hbv
    obtain ⟨k, M, rfl, hk, hg, HJs, HM, HC, hsz⟩ := hrel
    by_cases hlt : k < l.length
    · have hltz : (k : Int) < (l.length : Int) := by omega
      have Hlt := Lib.hid hlt
      obtain ⟨b, o, rfl, _, _, hcell⟩ := str_at HC.out k hlt
      have Htk : Hid (l.take (k + 1) = l.take k ++ [l[k]'hlt]) := by rw [List.take_succ_eq_append_getElem hlt]; exact Lib.hid rfl
      generalize l[k]'hlt = x at hcell Htk
      obtain ⟨fn, tmps, assign, body, hy, hRd⟩ := HY.out (l.take k) M x wr HJs.out (by rw [List.length_take]; omega)
      have HRd := Lib.hid hRd
      clear hRd
      gi_wp2
      refine ⟨rfl, ?_⟩
      refine HRd.out.mono ?_
      rintro e w4 (⟨rfl, M', hJ4, hc4, hM4⟩ | ⟨rfl, M', hJ4, hc4, hM4⟩)
      · have HJ4 := Lib.hid hJ4
        have HC4 := Lib.hid (HC.out.chg hc4 (fun k hs _ e => HM.out k e hs))
        have HM' : Hid (∀ k, M' k → ¬ S k) := Lib.hid (fun k hk hs => by
          rcases hM4 k hk with h | h
          · exact HM.out k h hs
          · have := HSS.out k hs; omega)
        have hs4 : w.heap.size ≤ w4.heap.size := by have := hc4.size; omega
        clear hJ4 hc4 hM4
        gi_wp2
        go_roundg (l.length - (k + 1))
        case measure => omega
        case rel => exact ⟨k + 1, M', by go_num, Hlt.out, Nat.le_refl _, by rw [Htk.out]; exact HJ4, HM', HC4, hs4⟩
      · have HJ4 := Lib.hid hJ4
        clear hJ4 hc4 hM4
        gi_wp2
        refine bodyPost_ret (results_none rfl _ _ _) rfl ?_
        refine .inl ⟨_, rfl, .inr ⟨_, M', ?_, HJ4.out⟩⟩
        rw [← Htk.out]
        exact List.take_prefix _ _
    · have hltz : ¬ (k : Int) < (l.length : Int) := by omega
      have hJe := HJs.out
      rw [List.take_of_length_le (by omega)] at hJe
      have HJe := Lib.hid hJe
      clear hJe HJs
      gi_wp2
      go_end0
      exact .inl ⟨_, rfl, .inl ⟨l, M, rfl, HJe.out⟩⟩

theorem values_calls (A : Option Addr) (n c : Nat) (w : World) :
    Calls Tryz.prog 59 #[.slice A n c] w fun e w' => e = .returned (.func (.func 80) #[] #[.pointer (some ⟨w.heap.size, 0, none⟩)]) ∧ w.alloc (.cells #[.slice A n c] 27) = w' := by
  have hmf : ∀ (fn : Fn) (first cap : Array Value) (w : World), (Instr.makeFunc fn first cap).run Tryz.prog w = .ok (.func fn first cap) w := fun _ _ _ _ => rfl
  go_enter Tryz.func59, Tryz.ntmps59
  go_wp2
  go_ret
  exact ⟨rfl, rfl⟩

/-- what lies between two rounds: the box b holds a row of what has come -/
def ColI (w : World) (pre : List ByteArray) (M : Nat → Prop) (W : World) : Prop :=
  ∃ v, W.heap[w.heap.size]? = some (.cells #[v] 27 (0, 0)) ∧ (∀ k, M k ↔ (k = w.heap.size ∨ v.ownBlock = some k)) ∧ Mine str (w.heap.size + 1) (fun _ => False) W v pre ∧ Below w.heap.size w W ∧ w.heap.size < W.heap.size
theorem ColI.chg {w : World} {pre : List ByteArray} {M T : Nat → Prop} {A B : World} (h : ColI w pre M A) (hc : Chg T A B) (hT : ∀ k, T k → w.heap.size + 1 ≤ k ∧ ¬ M k) : ColI w pre M B := by
  obtain ⟨v, h1, hM, ho, hb, hs⟩ := h
  exact ⟨v, hc.obj h1 (fun e => by have := (hT _ e).1; omega), hM, ho.chg hc (fun _ h => h.elim) (fun k hk e => (hT k e).2 ((hM k).2 (.inr hk))), hb.trans (hc.below (by omega) (fun k hk => by have := (hT k hk).1; omega)), by have := hc.size; omega⟩

set_option maxRecDepth 100000 in
set_option maxHeartbeats 4000000 in
theorem appendSeq_calls (S : Nat → Prop) (bv : Nat) (A : Option Addr) (c : Nat) (l : List ByteArray) (w : World) (hbv : w.cell? ⟨bv, 0, none⟩ = some (.slice A l.length c)) (hC : C str S w A l) (hl : l.length ≤ 1000000) :
    Calls Tryz.prog 87 #[.slice none 0 0, .func (.func 80) #[] #[.pointer (some ⟨bv, 0, none⟩)]] w fun e w' => ∃ v, e = .returned v ∧ Mine str w.heap.size (fun _ => False) w' v l ∧ Below w.heap.size w w' := by
  have hCb := hC.bound
  have hbl := lt_of_cell hbv
  refine (callsIn_wide (n := 0)).1 ?_
  refine callsIn_of_wp_marks Tryz.func87 rfl trivial ?_ rfl
  simp only [Tryz.ntmps87, List.size_toArray, List.length_cons, List.length_nil, Nat.reduceAdd, Nat.reduceSub, Array.replicate_succ, Array.replicate_zero, List.push_toArray, List.append_toArray, List.nil_append, List.cons_append]
  gi_wp2
  obtain ⟨W0, hW0⟩ : ∃ W0, w.alloc (.cells #[.slice none 0 0] 27) = W0 := ⟨_, rfl⟩
  have hs0 : W0.heap.size = w.heap.size + 1 := by rw [← hW0]; simp
  have hc0 : Chg (fun _ => False) w W0 := by rw [← hW0]; exact Chg.alloc _ _ _
  have hb0 : Below w.heap.size w W0 := hc0.below (Nat.le_refl _) (fun _ h => h.elim)
  have hI0 : ColI w [] (fun k => k = w.heap.size) W0 := ⟨.slice none 0 0, by rw [← hW0]; exact World.alloc_heap_new w _, fun k => by simp [Value.ownBlock], Mine.nil .., hb0, by omega⟩
  have hbv0 := hc0.cell hbv (fun e => e)
  have hC0 := hCb.chg hc0 (fun _ _ _ e => e)
  rw [hW0]
  clear hW0 hb0 hc0 hbv hC hCb
  obtain ⟨i0, hi0, hz0, hz1, hz2⟩ := info_parts infoStr
  have HI := Lib.hid hi0
  have HZ0 := Lib.hid hz0
  have HZ1 := Lib.hid hz1
  have HZ2 := Lib.hid hz2
  clear hi0 hz0 hz1 hz2
  refine wp_rangeFunc (gf := 80) (lb := #[.pointer (some ⟨bv, 0, none⟩)]) rfl (enters_of Tryz.func80 (by kernel_rfl) rfl)
    (fun W1 hc1 _ => values_iter (fun k => S k ∧ k < w.heap.size) bv A c l W1 (hc1.cell hbv0 (fun e => e)) (hC0.chg hc1 (fun _ _ _ e => e)) (fun k hk => by have := hc1.size; have := hk.2; omega))
    ⟨by omega, fun e => by have := e.2; omega⟩ (fun x => rfl) (fun k => k = w.heap.size) (fun k hk => ⟨⟨by omega, fun e => by have := e.2; omega⟩, by omega⟩)
    (ColI w) (fun _ _ _ _ => False)
    (fun pre M A B h hc => h.chg hc (fun k hk => ⟨by have := hk.1; omega, hk.2⟩)) (fun _ _ _ _ _ h _ => h) ?_ hI0
    (fun x a1 _ => a1 = { tmps := #[.slice none 0 0, .func (.func 80) #[] #[.pointer (some ⟨bv, 0, none⟩)], .pointer (some ⟨w.heap.size, 0, none⟩), undef, .slice none 0 0, .string x, .func (.func 80) #[] #[.pointer (some ⟨bv, 0, none⟩)], .string x, undef, undef, undef, undef, undef], defers := [] })
    (fun _ _ _ _ h _ => h) ?assign ?body ?done ?stop ?panic
  · rintro pre M A ⟨v, h1, hM, ho, _, hs⟩ k hk
    rcases (hM k).1 hk with rfl | h
    · omega
    · exact (ho.base_le h).2
  case assign =>
    intro l x W hW
    gi_wp2
    exact Chg.refl _ _
  case body =>
    rintro l0 pre M x a1 sz W ⟨v, h1, hM, ho, hb, hs⟩ hMs hlen rfl hsz hsW
    obtain ⟨Av, nv, cv, rfl⟩ : ∃ A n c, v = .slice A n c := by
      obtain ⟨A, c, e, _⟩ := ho.form
      exact ⟨A, _, c, e⟩
    have hcb := cell_of_one h1
    obtain ⟨W2, hW2⟩ : ∃ W2, W.alloc (.cells #[.string x] 9) = W2 := ⟨_, rfl⟩
    have hc2 : Chg (fun _ => False) W W2 := by rw [← hW2]; exact Chg.alloc _ _ _
    have hs2 : W2.heap.size = W.heap.size + 1 := by rw [← hW2]; simp
    have hcell : W2.cell? ⟨W.heap.size, 0, none⟩ = some (.string x) := by rw [← hW2]; exact cell_at _ _ _ _ rfl
    have ho2 := ho.chg hc2 (fun _ h => h.elim) (fun _ _ e => e)
    obtain ⟨v', w3, hrun, ho3, hg3, hat⟩ := ho2.append (P := Tryz.prog) (t := 27) (ty := 27) (bytes := 16) Tryz.underlying27 HI.out HZ0.out HZ1.out HZ2.out rfl (by decide) (b2 := W.heap.size) (o2 := 0) (c2 := 1) (m := 1) (ys := [x]) rfl (by simp)
      (scalar_cells (fun j y hj => by
        have hj' : j < 1 := (List.getElem?_eq_some_iff.1 hj).1
        obtain rfl : j = 0 := by omega
        cases hj
        exact hcell)) (by simp [maxLen]; omega) (by simp; omega) (by omega)
    have hnb : (Value.slice Av nv cv).ownBlock ≠ some w.heap.size := fun e => by have := (ho.base_le e).1; omega
    have hc3 : Chg (fun k => (Value.slice Av nv cv).ownBlock = some k) W2 w3 := Chg.grown hg3 (fun k e => .inl e)
    have hb3 := hc3.obj (hc2.obj h1 (fun e => e)) hnb
    have hcb3 := cell_of_one hb3
    have hfb3 := free_of_one hb3
    obtain ⟨A3, n3, c3, rfl⟩ : ∃ A n c, v' = .slice A n c := by
      obtain ⟨A, c, e, _⟩ := ho3.form
      exact ⟨A, _, c, e⟩
    have hnb3 : (Value.slice A3 n3 c3).ownBlock ≠ some w.heap.size := fun e => by have := (ho3.base_le e).1; omega
    have hc23 : Chg (fun k => (Value.slice Av nv cv).ownBlock = some k) W w3 := (hc2.mono (fun _ h => h.elim)).trans hc3
    have hc4 : Chg (fun k => k = w.heap.size) w3 (w3.setCell ⟨w.heap.size, 0, none⟩ (.slice A3 n3 c3)) := Chg.setCell (T := fun k => k = w.heap.size) rfl _
    have Hrun := Lib.hid hrun
    have HO3 := Lib.hid ho3
    have HM := Lib.hid hM
    have HMS := Lib.hid hMs
    have HB := Lib.hid hb
    have HH1 := Lib.hid h1
    have HO := Lib.hid ho
    have HAT := Lib.hid hat
    have HC23 := Lib.hid hc23
    have HC4 := Lib.hid hc4
    have HH3 := Lib.hid hb3
    have hblt : w.heap.size < W.heap.size := hs
    clear hrun ho3 hM hMs hb h1 ho hat hc23 hc4 hb3 hI0 hC0 hbv0 ho2 hcell hc2 hs2 hg3 hc3
    subst hW2
    gi_wp2_with (gi_at_builtin; refine wpListIn_append_run rfl _ _ 27 rfl _ _ rfl rfl _ _ Hrun.out ?_)
    refine ⟨fun k => k = w.heap.size ∨ (Value.slice A3 n3 c3).ownBlock = some k, ⟨.slice A3 n3 c3, one_setCell HH3.out, fun k => Iff.rfl, HO3.out.chg HC4.out (fun _ h => h.elim) (fun k hk e => hnb3 (by rw [← e]; exact hk)), ?_, ?_⟩, ?_, ?_⟩
    · exact HB.out.trans ((HC23.out.below (by omega) (fun k hk => by have := (HO.out.base_le hk).1; omega)).trans (HC4.out.below (by have := HC23.out.size; omega) (fun k hk => by omega)))
    · have := HC23.out.size; have := HC4.out.size; omega
    · exact (HC23.out.mono (fun k hk => .inl ((HM.out k).2 (.inr hk)))).trans (HC4.out.mono (fun k hk => .inl ((HM.out k).2 (.inl hk))))
    · rintro k (rfl | hk)
      · exact .inl ((HM.out _).2 (.inl rfl))
      · rcases HAT.out with h | h
        · exact .inl ((HM.out _).2 (.inr (h.symm.trans hk)))
        · rw [h] at hk
          injection hk with hk
          simp at hk
          exact .inr (by omega)
  case done =>
    rintro D xs M W hD rfl ⟨v, h1, hM, ho, hb, hs⟩ hK
    have hcb := cell_of_one h1
    obtain ⟨Av, nv, cv, rfl⟩ : ∃ A n c, v = .slice A n c := by
      obtain ⟨A, c, e, _⟩ := ho.form
      exact ⟨A, _, c, e⟩
    have HB := Lib.hid hb
    have HO := Lib.hid ho
    clear hb ho hM h1 hI0 hC0 hbv0
    gi_wp2
    have hc2 : Chg (fun k => k = D) W (W.putObj D (.deferred none)) := Chg.putObj (T := fun k => k = D) rfl _
    refine ⟨by simp, .inl ⟨D, _, rfl, run_takeDeferred hK, ?_⟩⟩
    refine ⟨.slice Av nv cv, by simp [results, Tryz.results87, go_sem], _, rfl, ?_, HB.out.trans (hc2.below (by have := HB.out.size; omega) (fun k hk => by omega))⟩
    exact (HO.out.lower (by omega)).chgD hc2 (fun _ h => h.elim) (fun k hk e p hp => by
      subst e
      simp [World.cell?, hp, hK])
  case stop =>
    rintro D c pre M W hD hp h hK
    exact h.elim
  case panic =>
    rintro D chain pre M W hD h _ _
    exact h.elim
end Go.Proofs.YthfomoigaoffgaaGreat.So
