/- Walks of the reference of sorts: Meet; the law SortNormals. -/
import Derived.Test.YthfomoigaoffgaaRf7
import Derived.Deep.AppendLies
namespace Go.Proofs.Ythfomoigaoffgaa.Rf
open Go Go.RowKit Go.Proofs.Ythfomoigaoffgaa.K Go.Proofs.Ythfomoigaoffgaa.G Go.Proofs.Ythfomoigaoffgaa.Ix Go.Proofs.Ythfomoigaoffgaa.O Go.Proofs.Ythfomoigaoffgaa.So
set_option linter.unusedSimpArgs false
set_option linter.unusedVariables false

/-- in a region that draws its order: an append whose run is known -/
theorem step_append_run {P : Program} {w : World} {ops : Array Oper} {o : Oper} {a : Act} {K : Act → World → Prop} {Q : Exit → Act → World → Prop} {E : Prop} (hgd : o.guard = none) (s x : Operand) (t : TypeId)
    (ho : o.op = .call { callee := .builtin .append, args := #[s, x], argTypes := #[t, t] }) (v vx : Value) (hs : a.eval s = v) (hx : a.eval x = vx) (v' : Value) (w' : World)
    (hrun : (Builtin.append_ #[t, t] o.type #[v, vx]).run P w = .ok v' w') (h : K (a.put o.dst v') w') :
    if Region.wanted o (yielded ops a.tmps) = true then Oper.wp P o a w K Q else E := by
  have hw : Region.wanted o (yielded ops a.tmps) = true := by simp [Region.wanted, hgd]
  rw [if_pos hw]
  subst hs hx
  unfold Oper.wp
  simp [execOp, ho, resolve, invoke, builtin, hrun, Result.andThen]
  exact h

set_option maxRecDepth 100000 in
set_option maxHeartbeats 2000000 in
theorem Meet_calls (S Sa Sb : Nat → Prop) (r : Raw) (T : Thy) (Aa Ab : Option Addr) (ca cb : Nat) (a b : List ByteArray) (w : World) (hT : ThyR S w r T) (ha : C str Sa w Aa a) (hca : a.length ≤ ca) (hb : C str Sb w Ab b) (hcb : b.length ≤ cb) :
    Calls Try.prog 14 #[thyV r T, .slice Aa a.length ca, .slice Ab b.length cb] w fun e w' => ∃ A' n' c', e = .returned (.tuple #[.slice A' n' c', .int .i64 (meetB T.cls a b).2]) ∧ Mine str w.heap.size (fun _ => False) w' (.slice A' n' c') (meetB T.cls a b).1 ∧ Below w.heap.size w w' := by
  have hag := Try.isAgg29
  have hsz := Try.sizeOf29
  obtain ⟨W1, hW1⟩ : ∃ W1, w.alloc (.cells (thyC r T) 29) = W1 := ⟨_, rfl⟩
  have hs1 : W1.heap.size = w.heap.size + 1 := by rw [← hW1]; simp
  have hT1 : W1.heap[w.heap.size]? = some (.cells (thyC r T) 29 (0, 0)) := by rw [← hW1]; exact World.alloc_heap_new w _
  have hb1 : Below w.heap.size w W1 := by rw [← hW1]; exact (Below.refl _ _).alloc (Nat.le_refl _) _
  obtain ⟨y0, y1, y2, y3, y4, y5, y6⟩ := thy_cells' hT1
  obtain ⟨W2, hW2⟩ : ∃ W2, W1.alloc (.cells #[.slice Aa a.length ca, .slice Ab b.length cb] 27) = W2 := ⟨_, rfl⟩
  have hb12 : Below W1.heap.size W1 W2 := by rw [← hW2]; exact (Below.refl _ _).alloc (Nat.le_refl _) _
  have hb2 : Below w.heap.size w W2 := hb1.trans (hb12.mono hb1.size)
  have HT2 := Lib.hid (box_below hT1 hb12)
  have hCl : C (slice str) (fun _ => True) W2 (some ⟨W1.heap.size, 0, none⟩) [a, b] := C.lit [[.slice Aa a.length ca], [.slice Ab b.length cb]] ⟨⟨Aa, ca, rfl, hca, (ha.below hb2).mono (fun _ _ => trivial)⟩, ⟨Ab, cb, rfl, hcb, (hb.below hb2).mono (fun _ _ => trivial)⟩, trivial⟩ (by rw [← hW2]; exact World.alloc_heap_new W1 _) trivial (by simp [maxLen])
  have HSo := Lib.hid (sorts_calls S (fun _ => True) r T _ 2 [a, b] W2 (hT.below hb2) hCl)
  rw [hs1] at HSo
  have HB2 := Lib.hid hb2
  rw [meet_ref]
  clear hb12 hb2 hb1 hCl hT1
  by_cases h0 : sortsA T.cls [a, b] = 0
  · obtain ⟨k0, k1⟩ := sorts_ok h0
    obtain ⟨ka, la⟩ := k1 a (by simp)
    obtain ⟨kb, lb⟩ := k1 b (by simp)
    have kab : knownB T.cls (a ++ b) = true := by rw [known_app, ka, kb]; rfl
    have lab : (a ++ b).length ≤ 100000 := by rw [List.length_append]; omega
    rw [if_neg (fun h => h h0)]
    rw [h0] at HSo
    have HL := Lib.hid (fun (W : World) (hb : Below w.heap.size w W) Sx A c hC => least_calls S Sx r T A c (a ++ b) W (hT.below hb) (classes_right k0) (classes_small k0) hC kab lab)
    have HA := Lib.hid ha
    have HBb := Lib.hid hb
    generalize leastB T.cls (a ++ b) = L at HL ⊢
    generalize hN : (if 20 < L.length then (([] : List ByteArray), (5 : Int)) else (L, 0)) = N
    have HN := Lib.hid hN
    clear hN
    clear h0 k0 k1 ka kb kab ha hb hT
    unfold thyV thyC at HSo HL
    unfold thyV
    unfold thyC at hW1 ⊢
    go_enter Try.func14, Try.ntmps14
    go_wp2_with fail
    refine HSo.out.mono ?_
    rintro e w3 ⟨rfl, hb3⟩
    have HB3 := Lib.hid (HB2.out.trans (hb3.mono HB2.out.size))
    have HT3 := Lib.hid (box_below HT2.out hb3)
    clear hb3 hW1 hW2 hs1 y0 y1 y2 y3 y4 y5 y6
    obtain ⟨x0, x1, x2, x3, x4, x5, x6⟩ := thy_cells' HT3.out
    -- the appends
    have hlt3 : w.heap.size + 1 ≤ w3.heap.size := (Array.getElem?_eq_some_iff.1 HT3.out).1
    have hb4 : Below w3.heap.size w3 (w3.alloc (.cells #[] 9)).drew := below_drew1 ((Below.refl _ _).alloc (Nat.le_refl _) _)
    have hm4 : Mine str (w.heap.size + 1) (fun _ => False) (w3.alloc (.cells #[] 9)).drew (.slice (some ⟨w3.heap.size, 0, none⟩) 0 0) [] :=
      ⟨some ⟨w3.heap.size, 0, none⟩, 0, rfl, Nat.le_refl _, Nat.zero_le _, .inr ⟨w3.heap.size, 0, rfl, hlt3, by show w3.heap.size < (w3.alloc _).heap.size; simp, fun j hj => absurd hj (by simp), fun j x hj => by simp at hj⟩⟩
    have hB4 := HB3.out.trans (hb4.mono HB3.out.size)
    obtain ⟨A5, n5, c5, w5, hrun1, hm5, hg5⟩ := append_str (c := ca) hm4 (HA.out.below hB4) (by simp; omega) (by show w.heap.size + 1 ≤ (w3.alloc _).heap.size; simp; omega)
    have hc5 : Chg (fun k => (Value.slice (some ⟨w3.heap.size, 0, none⟩) 0 0).ownBlock = some k) (w3.alloc (.cells #[] 9)).drew w5 := Chg.grown hg5 (fun k e => .inl e)
    have hB35 : Below w3.heap.size w3 w5 := hb4.trans (hc5.below (by show w3.heap.size ≤ (w3.alloc _).heap.size; simp) (fun k hk => by simp [Value.ownBlock] at hk; omega))
    have hB5 := HB3.out.trans (hB35.mono HB3.out.size)
    rw [List.nil_append] at hm5
    obtain ⟨A6, n6, c6, w6, hrun2, hm6, hg6⟩ := append_str (c := cb) hm5 (HBb.out.below hB5) (by omega) (by have := hB35.size; omega)
    have hc6 : Chg (fun k => (Value.slice A5 n5 c5).ownBlock = some k) w5 w6 := Chg.grown hg6 (fun k e => .inl e)
    have hB6 := hB5.trans (hc6.below hB5.size (fun k hk => by have := (hm5.base_le hk).1; omega))
    obtain ⟨hn6e, hn6, hC6⟩ := hm6.read
    have HRun1 := Lib.hid hrun1
    have HRun2 := Lib.hid hrun2
    have hT5 := box_below HT3.out hB35
    have hT6 := hc6.obj hT5 (fun e => by have := (hm5.base_le e).1; omega)
    obtain ⟨v0, v1, v2, v3, v4, v5, v6⟩ := thy_cells' hT5
    obtain ⟨u0, u1, u2, u3, u4, u5, u6⟩ := thy_cells' hT6
    have HT6 := Lib.hid hT6
    have hL6 := HL.out w6 hB6 _ A6 c6 hC6
    rw [← hn6e] at hL6
    have HL6 := Lib.hid hL6
    clear hL6 hn6e
    have HB6 := Lib.hid hB6
    clear hT5 hT6 hlt3 hb4 hm4 hB4 hrun1 hm5 hg5 hc5 hB35 hB5 hrun2 hm6 hg6 hc6 hB6 hn6 hC6 HL
    have HPost : ∀ (e : Ending) (w7 : World), (∃ A' n' c', e = .returned (.slice A' n' c') ∧ Mine str w6.heap.size (fun _ => False) w7 (.slice A' n' c') L ∧ Below w6.heap.size w6 w7) → ∃ A' n' c', e = .returned (.slice A' n' c') ∧ n' = L.length ∧ Hid (w7.heap[w.heap.size]? = some (.cells (thyC r T) 29 (0, 0))) ∧ Hid (Mine str w.heap.size (fun _ => False) w7 (.slice A' n' c') L) ∧ Hid (Below w.heap.size w w7) := by
      rintro e w7 ⟨A', n', c', h1, h2, h3⟩
      exact ⟨A', n', c', h1, h2.read.1, Lib.hid (box_below HT6.out h3), Lib.hid (h2.lower HB6.out.size), Lib.hid (HB6.out.trans (h3.mono HB6.out.size))⟩
    have HL7 := Lib.hid (HL6.out.mono HPost)
    clear HL6 HPost
    go_wp2
    have tok1 : True := trivial
    go_region_held3 (fun W' => W'.cell? ⟨w.heap.size, 0, none⟩ = some (.string r.nm) ∧ W'.cell? ⟨w.heap.size, 1, none⟩ = some (.slice r.a1 T.cls.length r.c1) ∧ W'.cell? ⟨w.heap.size, 2, none⟩ = some (.slice r.a2 T.tys.length r.c2) ∧ W'.cell? ⟨w.heap.size, 3, none⟩ = some (.slice r.a3 T.ars.length r.c3) ∧
        W'.cell? ⟨w.heap.size, 4, none⟩ = some (.slice r.a4 r.n4 r.c4) ∧ W'.cell? ⟨w.heap.size, 5, none⟩ = some (.slice r.a5 r.n5 r.c5) ∧ W'.cell? ⟨w.heap.size, 6, none⟩ = some (.slice r.a6 r.n6 r.c6)) (go_keep)
      (first
        | (go_at_call 36
           (refine HL7.out.mono ?_)
           rintro e w7 ⟨A7, n7, c7, rfl, rfl, HT7, HM7, HB7⟩
           obtain ⟨t0, t1, t2, t3, t4, t5, t6⟩ := thy_cells' HT7.out)
        | (have _t := tok1
           refine step_append_run (by rfl) _ _ _ (by rfl) _ _ (by rfl) (by rfl) _ _ HRun1.out ?_
           clear tok1 _t)
        | (refine step_append_run (by rfl) _ _ _ (by rfl) _ _ (by rfl) (by rfl) _ _ HRun2.out ?_))
    all_goals
      by_cases h20 : 20 < L.length
      · have hn := HN.out
        rw [if_pos h20] at hn
        subst hn
        have g20 : (20 : Int) < (L.length : Int) := by omega
        clear h20 HN
        go_wp2
        go_ret2
        exact ⟨_, _, _, rfl, Mine.nil .., HB7.out⟩
      · have hn := HN.out
        rw [if_neg h20] at hn
        subst hn
        have g20 : ¬ (20 : Int) < (L.length : Int) := by omega
        clear h20 HN
        go_wp2
        go_ret2
        exact ⟨_, _, _, rfl, HM7.out, HB7.out⟩
  · rw [if_pos h0]
    have g : (sortsA T.cls [a, b] != 0) = true := bne_iff_ne.2 h0
    generalize sortsA T.cls [a, b] = E at HSo g
    clear h0 ha hb hT
    unfold thyV thyC at HSo
    unfold thyV
    unfold thyC at hW1 ⊢
    go_enter Try.func14, Try.ntmps14
    go_wp2_with fail
    refine HSo.out.mono ?_
    rintro e w3 ⟨rfl, hb3⟩
    have HB3 := Lib.hid (HB2.out.trans (hb3.mono HB2.out.size))
    clear hb3 hW1 hW2 hs1 y0 y1 y2 y3 y4 y5 y6
    go_wp2
    go_ret2
    exact ⟨_, _, _, rfl, Mine.nil .., HB3.out⟩

set_option maxRecDepth 100000 in
set_option maxHeartbeats 2000000 in
theorem sortNormals_calls (S Sa Sb : Nat → Prop) (r : Raw) (T : Thy) (Aa Ab : Option Addr) (ca cb : Nat) (a b : List ByteArray) (w : World) (hT : ThyR S w r T) (ha : C str Sa w Aa a) (hca : a.length ≤ ca) (hb : C str Sb w Ab b) (hcb : b.length ≤ cb)
    (hal : ∀ x ∈ a, x.size ≤ maxLen) (hbl : ∀ x ∈ b, x.size ≤ maxLen) :
    Calls Try.prog 3 #[thyV r T, .slice Aa a.length ca, .slice Ab b.length cb] w fun e w' => e = .returned (.bool true) ∧ Below w.heap.size w w' := by
  have hst := St.first w r T
  obtain ⟨z0, z1, z2, z3, z4, z5, z6⟩ := thy_cells hst.copy
  have hag := Try.isAgg29
  have hsz := Try.sizeOf29
  have HF := Lib.hid (few_calls S r T _ (hT.below hst.below))
  have HT := Lib.hid hT
  have HA := Lib.hid ha
  have HB := Lib.hid hb
  have HST := Lib.hid hst
  have HAW := Lib.hid (fun W => awake_calls W)
  have l1 : a.length ≤ 9223372036854775807 := ha.len
  have l2 : b.length ≤ 9223372036854775807 := hb.len
  generalize hR : fewB T = R at HF
  have HR := Lib.hid hR
  clear hT ha hb hst hR
  unfold thyV
  go_enter Try.func3, Try.ntmps3
  go_wp2_with fail
  refine HF.out.mono ?_
  rintro e w1 ⟨rfl, hb1⟩
  have HST1 := Lib.hid (HST.out.step hb1)
  clear hb1 z0 z1 z2 z3 z4 z5 z6 HF HST
  cases R with
  | false =>
    go_wp2_with fail
    refine (HAW.out _).mono ?_
    rintro e w2 ⟨rfl, hb2⟩
    have HST2 := Lib.hid (HST1.out.step hb2)
    clear hb2
    go_wp2
    go_ret
    exact ⟨rfl, HST2.out.below⟩
  | true =>
    have hfew := fewB_sups HR.out
    go_wp2_with fail
    refine (few2_calls (HA.out.below HST1.out.below) hca (HB.out.below HST1.out.below) hcb).mono ?_
    rintro e w2 ⟨rfl, hb2⟩
    have HST2 := Lib.hid (HST1.out.step hb2)
    clear hb2
    cases hfs : fewS [a, b] with
    | false =>
      clear hfs
      go_wp2_with fail
      refine (HAW.out _).mono ?_
      rintro e w3 ⟨rfl, hb3⟩
      have HST3 := Lib.hid (HST2.out.step hb3)
      clear hb3
      go_wp2
      go_ret
      exact ⟨rfl, HST3.out.below⟩
    | true =>
      have la : a.length ≤ 25 := fewS_mem hfs (by simp)
      have lb : b.length ≤ 25 := fewS_mem hfs (by simp)
      clear hfs
      obtain ⟨z0, z1, z2, z3, z4, z5, z6⟩ := thy_cells HST2.out.copy
      have HN1 := Lib.hid (fun W (hb : Below w.heap.size w W) => normal_calls S Sa r T Aa ca a W (HT.out.below hb) (HA.out.below hb) hca (by omega) hal hfew)
      have HN2 := Lib.hid (fun W (hb : Below w.heap.size w W) => Normal_calls S Sa r T Aa ca a W (HT.out.below hb) (HA.out.below hb) hca)
      have HM1 := Lib.hid (fun W (hb : Below w.heap.size w W) => meet_calls S Sa Sb r T Aa Ab ca cb a b W (HT.out.below hb) (HA.out.below hb) hca (HB.out.below hb) hcb (by omega) (by omega) hal hbl hfew)
      have HM2 := Lib.hid (fun W (hb : Below w.heap.size w W) => Meet_calls S Sa Sb r T Aa Ab ca cb a b W (HT.out.below hb) (HA.out.below hb) hca (HB.out.below hb) hcb)
      generalize normB T.cls a = N at HN1 HN2
      generalize meetB T.cls a b = M at HM1 HM2
      obtain ⟨N, en⟩ := N
      obtain ⟨M, em⟩ := M
      clear hal hbl hfew
      unfold thyV thyC at HN1 HN2 HM1 HM2
      go_wp2_with fail
      refine (HN1.out _ HST2.out.below).mono ?_
      rintro e w3 ⟨v3, rfl, hm3, hb3⟩
      obtain ⟨A3, c3, rfl, _⟩ := hm3.form
      have HST3 := Lib.hid (HST2.out.step hb3)
      have HC3 := Lib.hid hm3.read.2.2
      clear hb3 hm3 z0 z1 z2 z3 z4 z5 z6
      obtain ⟨z0, z1, z2, z3, z4, z5, z6⟩ := thy_cells HST3.out.copy
      go_wp2_with fail
      refine (HN2.out _ HST3.out.below).mono ?_
      rintro e w4 ⟨A4, n4, c4, rfl, hm4, hb4⟩
      have HST4 := Lib.hid (HST3.out.step hb4)
      obtain ⟨rfl, _, hC4⟩ := hm4.read
      have HC4 := Lib.hid hC4
      have HC34 := Lib.hid (HC3.out.below hb4)
      clear hb4 hm4 hC4 z0 z1 z2 z3 z4 z5 z6
      obtain ⟨z0, z1, z2, z3, z4, z5, z6⟩ := thy_cells HST4.out.copy
      go_wp2_with fail
      refine (HM1.out _ HST4.out.below).mono ?_
      rintro e w5 ⟨v5, rfl, hm5, hb5⟩
      obtain ⟨A5, c5, rfl, _⟩ := hm5.form
      have HST5 := Lib.hid (HST4.out.step hb5)
      have HC5 := Lib.hid hm5.read.2.2
      have HC45 := Lib.hid (HC4.out.below hb5)
      have HC35 := Lib.hid (HC34.out.below hb5)
      clear hb5 hm5 z0 z1 z2 z3 z4 z5 z6
      obtain ⟨z0, z1, z2, z3, z4, z5, z6⟩ := thy_cells HST5.out.copy
      go_wp2_with fail
      refine (HM2.out _ HST5.out.below).mono ?_
      rintro e w6 ⟨A6, n6, c6, rfl, hm6, hb6⟩
      have HST6 := Lib.hid (HST5.out.step hb6)
      obtain ⟨rfl, _, hC6⟩ := hm6.read
      have HC6 := Lib.hid hC6
      have HC56 := Lib.hid (HC5.out.below hb6)
      have HC46 := Lib.hid (HC45.out.below hb6)
      have HC36 := Lib.hid (HC35.out.below hb6)
      clear hb6 hm6 hC6 z0 z1 z2 z3 z4 z5 z6
      go_wp2_with fail
      refine (equal_same HC36.out HC46.out).mono ?_
      rintro e w7 ⟨rfl, hb7⟩
      have HST7 := Lib.hid (HST6.out.step hb7)
      have HC57 := Lib.hid (HC56.out.below hb7)
      have HC67 := Lib.hid (HC6.out.below hb7)
      clear hb7
      go_wp2_with fail
      refine (equal_same HC57.out HC67.out).mono ?_
      rintro e w8 ⟨rfl, hb8⟩
      have HST8 := Lib.hid (HST7.out.step hb8)
      clear hb8
      go_wp2_with fail
      refine (HAW.out _).mono ?_
      rintro e w9 ⟨rfl, hb9⟩
      have HST9 := Lib.hid (HST8.out.step hb9)
      clear hb9
      go_wp2
      go_ret
      exact ⟨rfl, HST9.out.below⟩
end Go.Proofs.Ythfomoigaoffgaa.Rf
