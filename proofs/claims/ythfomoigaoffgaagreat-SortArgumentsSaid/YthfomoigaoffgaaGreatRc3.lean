/- Walks of the reference's Check: one. -/
import Derived.Test.YthfomoigaoffgaaGreatRc2
namespace Go.Proofs.YthfomoigaoffgaaGreat.Rc
open Go Go.RowKit Go.Proofs.YthfomoigaoffgaaGreat.K Go.Proofs.YthfomoigaoffgaaGreat.G Go.Proofs.YthfomoigaoffgaaGreat.Ix Go.Proofs.YthfomoigaoffgaaGreat.O Go.Proofs.YthfomoigaoffgaaGreat.So Go.Proofs.YthfomoigaoffgaaGreat.Rf Go.Proofs.YthfomoigaoffgaaGreat.Ch
set_option linter.unusedSimpArgs false
set_option linter.unusedVariables false

/-- the boxes of a walk over one arity: the theory, the arity -/
structure OneB (r : Raw) (T : Thy) (t c : ByteArray) (A : Option Addr) (n cp : Nat) (w W : World) : Prop where
  thy : W.heap[w.heap.size]? = some (.cells (thyC r T) 29 (0, 0))
  box : W.heap[w.heap.size + 1]? = some (.cells #[.string t, .string c, .slice A n cp] 50 (0, 0))
  below : Below w.heap.size w W
theorem OneB.step {r : Raw} {T : Thy} {t c : ByteArray} {A : Option Addr} {n cp : Nat} {w W W' : World} (h : OneB r T t c A n cp w W) (hb : Below W.heap.size W W') : OneB r T t c A n cp w W' :=
  ⟨box_below h.thy hb, box_below h.box hb, h.below.trans (hb.mono h.below.size)⟩
theorem OneB.cells {r : Raw} {T : Thy} {t c : ByteArray} {A : Option Addr} {n cp : Nat} {w W : World} (h : OneB r T t c A n cp w W) :
    W.cell? ⟨w.heap.size + 1, 0, none⟩ = some (.string t) ∧ W.cell? ⟨w.heap.size + 1, 1, none⟩ = some (.string c) ∧ W.cell? ⟨w.heap.size + 1, 2, none⟩ = some (.slice A n cp) := by
  have h1 := h.box
  simp [World.cell?, h1]
theorem OneB.start (r : Raw) (T : Thy) (t c : ByteArray) (A : Option Addr) (n cp : Nat) (w : World) : OneB r T t c A n cp w ((w.alloc (.cells (thyC r T) 29)).alloc (.cells #[.string t, .string c, .slice A n cp] 50)) := by
  refine ⟨(Below.heap_alloc _ _ _ (by simp)).trans (World.alloc_heap_new w _), ?_, ((Below.refl _ _).alloc (Nat.le_refl _) _).alloc (by simp) _⟩
  have := World.alloc_heap_new (w.alloc (.cells (thyC r T) 29)) (.cells #[.string t, .string c, .slice A n cp] 50)
  rwa [World.size_alloc] at this

theorem sl_at {S : Nat → Prop} {w : World} {A : Option Addr} {l : List (List ByteArray)} (h : C (slice str) S w A l) (j : Nat) (hj : j < l.length) : ∃ b o A' c', A = some ⟨b, o, none⟩ ∧ b < w.heap.size ∧ w.cell? ⟨b, o + j, none⟩ = some (.slice A' (l[j]'hj).length c') ∧ (l[j]'hj).length ≤ c' ∧ C str S w A' (l[j]'hj) := by
  obtain ⟨b, o, cs, e, _, hb, ⟨A', c', rfl, h1, h2⟩, hc⟩ := h.at_ j hj
  have e1 : (slice str).sz = 1 := rfl
  have := hc 0 _ rfl
  rw [e1, Nat.mul_one, Nat.add_zero] at this
  exact ⟨b, o, A', c', e, hb, this, h1, h2⟩

set_option maxRecDepth 100000 in
set_option maxHeartbeats 8000000 in
theorem one_calls (S : Nat → Prop) (r : Raw) (T : Thy) (w : World) (hT : ThyR S w r T) (hR : Right [] T.cls) (hn : T.cls.length ≤ 1000000) (i : Nat) (hi : i < T.ars.length) :
    Calls Tryz.prog 49 #[thyV r T, .int .i64 (i : Int)] w fun e w' => e = .returned (.int .i64 (oneE T.cls T.tys ((T.ars.take i).map (fun a => (a.1, a.2.1))) (T.ars[i]'hi))) ∧ Below w.heap.size w w' := by
  obtain ⟨nm, a1, c1, a2, c2, a3, c3, a4, n4, c4, a5, n5, c5, a6, n6, c6⟩ := r
  have HC := Lib.hid (show C kAr S w a3 T.ars from hT.ars)
  have HCt := Lib.hid (show C kTd S w a2 T.tys from hT.tys)
  have hlm : T.ars.length ≤ 9223372036854775807 := hT.ars.len
  have hlt : T.tys.length ≤ 9223372036854775807 := hT.tys.len
  have HTy := Lib.hid (fun (W : World) (hb : Below w.heap.size w W) nm => Type_calls S _ T W (hT.below hb) nm)
  have HCl := Lib.hid (fun (W : World) (hb : Below w.heap.size w W) nm => Class_calls S _ T W (hT.below hb) nm)
  have HAr := Lib.hid (fun (W : World) (hb : Below w.heap.size w W) t c => arity_calls S _ T W (hT.below hb) t c)
  have HKn := Lib.hid (fun (W : World) (hb : Below w.heap.size w W) A c s (hC : C str S W A s) => known_calls S S _ T A c s W (hT.below hb) hC)
  have HNo := Lib.hid (fun (W : World) (hb : Below w.heap.size w W) A c s (hC : C str S W A s) hk hl => IsNormal_calls S S _ T A c s W (hT.below hb) hR hn hC hk hl)
  have HDup := Lib.hid (aidx_dup T.ars i hi)
  have hiz : (i : Int) < (T.ars.length : Int) := by omega
  have hi0 : (0 : Int) ≤ (i : Int) := by omega
  obtain ⟨b, o, As, cp, rfl, hbw, qw0, qw1, qw2, hlc, hCs⟩ := ar_keys HC.out i hi
  generalize hE : oneE T.cls T.tys ((T.ars.take i).map (fun a => (a.1, a.2.1))) (T.ars[i]'hi) = E
  generalize T.ars[i]'hi = a at qw0 qw1 qw2 hlc hCs hE HDup
  obtain ⟨at_, ac, ss⟩ := a
  dsimp only at qw0 qw1 qw2 hlc hCs hE HDup
  unfold oneE at hE
  dsimp only at hE
  have HE := Lib.hid hE
  have HCs := Lib.hid hCs
  have hssl : ss.length ≤ 9223372036854775807 := hCs.len
  have hag := Tryz.isAgg29
  have hsz := Tryz.sizeOf29
  obtain ⟨W1, hW1⟩ : ∃ W1, w.alloc (.cells (thyC ⟨nm, a1, c1, a2, c2, some ⟨b, o, none⟩, c3, a4, n4, c4, a5, n5, c5, a6, n6, c6⟩ T) 29) = W1 := ⟨_, rfl⟩
  have hb1 : Below w.heap.size w W1 := by rw [← hW1]; exact (Below.refl _ _).alloc (Nat.le_refl _) _
  have hs1 : W1.heap.size = w.heap.size + 1 := by rw [← hW1]; simp
  have hst := OneB.start ⟨nm, a1, c1, a2, c2, some ⟨b, o, none⟩, c3, a4, n4, c4, a5, n5, c5, a6, n6, c6⟩ T at_ ac As ss.length cp w
  rw [hW1] at hst
  obtain ⟨_, _, _, y3, _⟩ := thy_cells' (show W1.heap[w.heap.size]? = some (.cells (thyC ⟨nm, a1, c1, a2, c2, some ⟨b, o, none⟩, c3, a4, n4, c4, a5, n5, c5, a6, n6, c6⟩ T) 29 (0, 0)) by rw [← hW1]; exact World.alloc_heap_new w _)
  dsimp only at y3
  have q0 := (hb1.cell (p := ⟨b, o + i * 3, none⟩) hbw).trans qw0
  have q1 := (hb1.cell (p := ⟨b, o + i * 3 + 1, none⟩) hbw).trans qw1
  have q2 := (hb1.cell (p := ⟨b, o + i * 3 + 2, none⟩) hbw).trans qw2
  obtain ⟨X, hX⟩ : ∃ X, W1.alloc (.cells #[.string at_, .string ac, .slice As ss.length cp] 50) = X := ⟨_, rfl⟩
  rw [hX] at hst
  have HX := Lib.hid hst
  obtain ⟨x0, x1, x2⟩ := HX.out.cells
  obtain ⟨z0, z1, z2, z3, z4, z5, z6⟩ := thy_cells' HX.out.thy
  dsimp only at z0 z1 z2 z3 z4 z5 z6
  clear hT hR hst hbw qw0 qw1 qw2 hCs hE hb1
  unfold thyV thyC at HTy HCl HAr HKn HNo
  unfold thyV
  unfold thyC at hW1 ⊢
  dsimp only at HTy HCl HAr HKn HNo hW1 ⊢
  go_enter Tryz.func49, Tryz.ntmps49
  go_wp2_with fail
  refine (HTy.out _ HX.out.below at_).mono ?_
  rintro e w2 ⟨rfl, hb2⟩
  have HX2 := Lib.hid (HX.out.step hb2)
  clear hb2 hW1 hX x0 x1 x2 z0 z1 z2 z3 z4 z5 z6 q0 q1 q2 y3 HX
  obtain ⟨x0, x1, x2⟩ := HX2.out.cells
  obtain ⟨z0, z1, z2, z3, z4, z5, z6⟩ := thy_cells' HX2.out.thy
  dsimp only at z0 z1 z2 z3 z4 z5 z6
  rcases tidx_cases T.tys at_ with ⟨e1, e2⟩ | ⟨k, hk, e1, e2⟩
  · rw [e1]
    have hE := HE.out
    rw [e2] at hE
    obtain rfl : (9 : Int) = E := hE
    clear e1 e2 HE
    go_wp2
    go_ret
    exact ⟨rfl, HX2.out.below⟩
  · rw [e1]
    have hE := HE.out
    rw [e2] at hE
    obtain ⟨b2, o2, rfl, hbw2, _, p1⟩ := td_at HCt.out k hk
    have hkz : (k : Int) < (T.tys.length : Int) := by omega
    have hk0 : ¬ (k : Int) < 0 := by omega
    have hk0' : (0 : Int) ≤ (k : Int) := by omega
    generalize (T.tys[k]'hk).2 = n at hE p1
    have hE : (if has T.cls ac then (if ((T.ars.take i).map (fun a => (a.1, a.2.1))).contains (at_, ac) then 10 else if (ss.length : Int) ≠ n then 5 else sortsX T.cls ss) else 9) = E := hE
    have HQ := Lib.hid (fun (W : World) (hb : Below w.heap.size w W) => (hb.cell (p := ⟨b2, o2 + k * 2 + 1, none⟩) hbw2).trans p1)
    rw [← cidx_has] at hE
    have HC3 := Lib.hid (HCl.out _ HX2.out.below ac)
    generalize cidx T.cls ac = ci at HC3 hE
    have HE := Lib.hid hE
    clear e1 e2 hE hbw2 p1
    go_wp2_with fail
    refine HC3.out.mono ?_
    rintro e w3 ⟨rfl, hb3⟩
    have HX3 := Lib.hid (HX2.out.step hb3)
    clear hb3 x0 x1 x2 z0 z1 z2 z3 z4 z5 z6 HX2
    obtain ⟨x0, x1, x2⟩ := HX3.out.cells
    obtain ⟨z0, z1, z2, z3, z4, z5, z6⟩ := thy_cells' HX3.out.thy
    dsimp only at z0 z1 z2 z3 z4 z5 z6
    have hE := HE.out
    by_cases hci : 0 ≤ ci
    · have hcn : ¬ ci < 0 := by omega
      rw [decide_eq_true hci, if_pos rfl, HDup.out] at hE
      have HA4 := Lib.hid (HAr.out _ HX3.out.below at_ ac)
      generalize aidx T.ars at_ ac = ai at HA4 hE
      clear HE hci
      go_wp2_with fail
      refine HA4.out.mono ?_
      rintro e w4 ⟨rfl, hb4⟩
      have HX4 := Lib.hid (HX3.out.step hb4)
      clear hb4 x0 x1 x2 z0 z1 z2 z3 z4 z5 z6 HX3
      obtain ⟨x0, x1, x2⟩ := HX4.out.cells
      obtain ⟨z0, z1, z2, z3, z4, z5, z6⟩ := thy_cells' HX4.out.thy
      dsimp only at z0 z1 z2 z3 z4 z5 z6
      cases hai : (ai == (i : Int)) with
      | true =>
        rw [hai, if_neg (by decide)] at hE
        have g1 : (ai != (i : Int)) = false := by simp [bne, hai]
        have p1 := HQ.out _ HX4.out.below
        clear hai
        by_cases hsn : (ss.length : Int) = n
        · rw [if_neg (fun h => h hsn)] at hE
          have g2 : ((ss.length : Int) != n) = false := by simp [hsn]
          have HSX := Lib.hid (show sortsX T.cls (ss.drop 0) = E from hE)
          clear hE hsn
          go_wp2
          go_quiet (fail)
          go_wp2
          clear x0 x1 x2 z0 z1 z2 z3 z4 z5 z6 p1
          go_loopg [7] ss.length (fun gg v wr => ∃ j : Nat, v = .int .i64 j ∧ j ≤ ss.length ∧ ss.length - j ≤ gg ∧ Hid (sortsX T.cls (ss.drop j) = E) ∧ Hid (OneB ⟨nm, a1, c1, some ⟨b2, o2, none⟩, c2, some ⟨b, o, none⟩, c3, a4, n4, c4, a5, n5, c5, a6, n6, c6⟩ T at_ ac As ss.length cp w wr))
          case atStart => exact ⟨0, rfl, by omega, by omega, HSX, Lib.hid (HX4.out.step (by exact below_drewN (Below.refl _ _) _))⟩
          case round =>
            clear HSX
            obtain ⟨j, rfl, hj, hgj, HSX, HXj⟩ := hrel
            obtain ⟨x0, x1, x2⟩ := HXj.out.cells
            obtain ⟨z0, z1, z2, z3, z4, z5, z6⟩ := thy_cells' HXj.out.thy
            dsimp only at z0 z1 z2 z3 z4 z5 z6
            by_cases hjl : j < ss.length
            · have hjz : (j : Int) < (ss.length : Int) := by omega
              have hj0 : (0 : Int) ≤ (j : Int) := by omega
              have Hjl := Lib.hid hjl
              obtain ⟨b3, o3, A3, cp3, rfl, hbw3, p0, hlc3, hC3⟩ := sl_at (HCs.out.below HXj.out.below) j hjl
              have hx := HSX.out
              rw [List.drop_eq_getElem_cons hjl, sortsX] at hx
              generalize ss[j]'hjl = s at p0 hlc3 hC3 hx
              have HC3' := Lib.hid hC3
              have HP := Lib.hid (fun (W : World) (hb : Below wr.heap.size wr W) => (hb.cell (p := ⟨b3, o3 + j, none⟩) hbw3).trans p0)
              have HKx := Lib.hid (fun (W : World) (hb : Below wr.heap.size wr W) => HKn.out W (HXj.out.below.trans (hb.mono HXj.out.below.size)) A3 cp3 s (hC3.below hb))
              unfold sortE at hx
              clear hC3 hbw3 HSX
              by_cases h20 : 20 < s.length
              · have g20 : (20 : Int) < (s.length : Int) := by omega
                rw [if_pos h20, if_pos (by decide)] at hx
                obtain rfl : (5 : Int) = E := hx
                clear h20
                go_wp2
                go_ret
                exact ⟨rfl, HXj.out.below⟩
              · have g20 : ¬ (20 : Int) < (s.length : Int) := by omega
                rw [if_neg h20] at hx
                have H20 := Lib.hid (show s.length ≤ 20 by omega)
                clear h20
                cases hkn : knownB T.cls s with
                | false =>
                  rw [hkn] at HKx hx
                  obtain rfl : (9 : Int) = E := hx
                  clear hkn
                  go_wp2
                  go_region_held3 (fun W' => W'.cell? ⟨w.heap.size, 0, none⟩ = some (.string nm) ∧ W'.cell? ⟨w.heap.size, 1, none⟩ = some (.slice a1 T.cls.length c1) ∧ W'.cell? ⟨w.heap.size, 2, none⟩ = some (.slice (some ⟨b2, o2, none⟩) T.tys.length c2) ∧ W'.cell? ⟨w.heap.size, 3, none⟩ = some (.slice (some ⟨b, o, none⟩) T.ars.length c3) ∧
                      W'.cell? ⟨w.heap.size, 4, none⟩ = some (.slice a4 n4 c4) ∧ W'.cell? ⟨w.heap.size, 5, none⟩ = some (.slice a5 n5 c5) ∧ W'.cell? ⟨w.heap.size, 6, none⟩ = some (.slice a6 n6 c6) ∧ W'.cell? ⟨w.heap.size + 1, 2, none⟩ = some (.slice (some ⟨b3, o3, none⟩) ss.length cp) ∧ W'.cell? ⟨b3, o3 + j, none⟩ = some (.slice A3 s.length cp3)) (go_keep)
                    (first
                      | (go_at_call 51
                         (with_reducible refine (HKx.out _ ?_).mono ?_)
                         (first | exact Below.refl _ _ | exact below_drew1 (Below.refl _ _))
                         rintro e w5 ⟨rfl, hb5⟩
                         have HX5 := Lib.hid (HXj.out.step (undrew hb5))
                         obtain ⟨z0, z1, z2, z3, z4, z5, z6⟩ := thy_cells' HX5.out.thy
                         dsimp only at z0 z1 z2 z3 z4 z5 z6
                         obtain ⟨x0, x1, x2⟩ := HX5.out.cells
                         have p0 := HP.out _ (undrew hb5)
                         clear hb5))
                  all_goals
                    go_wp2
                    go_ret
                    exact ⟨rfl, HX5.out.below⟩
                | true =>
                  rw [hkn] at HKx hx
                  rw [if_pos rfl] at hx
                  have HNx := Lib.hid (fun (W : World) (hb : Below wr.heap.size wr W) => HNo.out W (HXj.out.below.trans (hb.mono HXj.out.below.size)) A3 cp3 s (HC3'.out.below hb) hkn H20.out)
                  have HHb := Lib.hid (fun (W : World) (hb : Below wr.heap.size wr W) => HXj.out.step hb)
                  generalize decide (s = leastB T.cls s) = D at HNx hx
                  have HX' := Lib.hid hx
                  clear hkn hx
                  go_wp2
                  go_region_held3 (fun W' => W'.cell? ⟨w.heap.size, 0, none⟩ = some (.string nm) ∧ W'.cell? ⟨w.heap.size, 1, none⟩ = some (.slice a1 T.cls.length c1) ∧ W'.cell? ⟨w.heap.size, 2, none⟩ = some (.slice (some ⟨b2, o2, none⟩) T.tys.length c2) ∧ W'.cell? ⟨w.heap.size, 3, none⟩ = some (.slice (some ⟨b, o, none⟩) T.ars.length c3) ∧
                      W'.cell? ⟨w.heap.size, 4, none⟩ = some (.slice a4 n4 c4) ∧ W'.cell? ⟨w.heap.size, 5, none⟩ = some (.slice a5 n5 c5) ∧ W'.cell? ⟨w.heap.size, 6, none⟩ = some (.slice a6 n6 c6) ∧ W'.cell? ⟨w.heap.size + 1, 2, none⟩ = some (.slice (some ⟨b3, o3, none⟩) ss.length cp) ∧ W'.cell? ⟨b3, o3 + j, none⟩ = some (.slice A3 s.length cp3)) (go_keep)
                    (first
                      | (go_at_call 51
                         (with_reducible refine (HKx.out _ ?_).mono ?_)
                         (first | exact Below.refl _ _ | exact below_drew1 (Below.refl _ _))
                         rintro e w5 ⟨rfl, hb5⟩
                         have HBk := Lib.hid (undrew hb5)
                         have HX5 := Lib.hid (HXj.out.step (undrew hb5))
                         obtain ⟨z0, z1, z2, z3, z4, z5, z6⟩ := thy_cells' HX5.out.thy
                         dsimp only at z0 z1 z2 z3 z4 z5 z6
                         obtain ⟨x0, x1, x2⟩ := HX5.out.cells
                         have p0 := HP.out _ (undrew hb5)
                         clear hb5))
                  all_goals
                    cases D with
                    | true =>
                      have HX2 := Lib.hid (show sortsX T.cls (ss.drop (j + 1)) = E from HX'.out)
                      clear HX'
                      go_wp2
                      go_region_held3 (fun W' => W'.cell? ⟨w.heap.size, 0, none⟩ = some (.string nm) ∧ W'.cell? ⟨w.heap.size, 1, none⟩ = some (.slice a1 T.cls.length c1) ∧ W'.cell? ⟨w.heap.size, 2, none⟩ = some (.slice (some ⟨b2, o2, none⟩) T.tys.length c2) ∧ W'.cell? ⟨w.heap.size, 3, none⟩ = some (.slice (some ⟨b, o, none⟩) T.ars.length c3) ∧
                          W'.cell? ⟨w.heap.size, 4, none⟩ = some (.slice a4 n4 c4) ∧ W'.cell? ⟨w.heap.size, 5, none⟩ = some (.slice a5 n5 c5) ∧ W'.cell? ⟨w.heap.size, 6, none⟩ = some (.slice a6 n6 c6) ∧ W'.cell? ⟨w.heap.size + 1, 2, none⟩ = some (.slice (some ⟨b3, o3, none⟩) ss.length cp) ∧ W'.cell? ⟨b3, o3 + j, none⟩ = some (.slice A3 s.length cp3)) (go_keep)
                        (first
                          | (go_at_call 72
                             (with_reducible refine (HNx.out _ ?_).mono ?_)
                             (first | exact HBk.out | exact below_drew1 HBk.out)
                             rintro e w6 ⟨rfl, hb6⟩
                             have hbt := HBk.out.trans ((undrew hb6).mono HBk.out.size)
                             have HX6 := Lib.hid (HXj.out.step hbt)
                             obtain ⟨z0, z1, z2, z3, z4, z5, z6⟩ := thy_cells' HX6.out.thy
                             dsimp only at z0 z1 z2 z3 z4 z5 z6
                             obtain ⟨x0, x1, x2⟩ := HX6.out.cells
                             have p0 := HP.out _ hbt
                             clear hb6 hbt))
                      all_goals
                        go_wp2
                        go_roundg (ss.length - (j + 1))
                        case measure => omega
                        case rel => exact ⟨j + 1, by go_num, Hjl.out, Nat.le_refl _, HX2, HX6⟩
                    | false =>
                      obtain rfl : (14 : Int) = E := HX'.out
                      clear HX'
                      go_wp2
                      go_region_held3 (fun W' => W'.cell? ⟨w.heap.size, 0, none⟩ = some (.string nm) ∧ W'.cell? ⟨w.heap.size, 1, none⟩ = some (.slice a1 T.cls.length c1) ∧ W'.cell? ⟨w.heap.size, 2, none⟩ = some (.slice (some ⟨b2, o2, none⟩) T.tys.length c2) ∧ W'.cell? ⟨w.heap.size, 3, none⟩ = some (.slice (some ⟨b, o, none⟩) T.ars.length c3) ∧
                          W'.cell? ⟨w.heap.size, 4, none⟩ = some (.slice a4 n4 c4) ∧ W'.cell? ⟨w.heap.size, 5, none⟩ = some (.slice a5 n5 c5) ∧ W'.cell? ⟨w.heap.size, 6, none⟩ = some (.slice a6 n6 c6) ∧ W'.cell? ⟨w.heap.size + 1, 2, none⟩ = some (.slice (some ⟨b3, o3, none⟩) ss.length cp) ∧ W'.cell? ⟨b3, o3 + j, none⟩ = some (.slice A3 s.length cp3)) (go_keep)
                        (first
                          | (go_at_call 72
                             (with_reducible refine (HNx.out _ ?_).mono ?_)
                             (first | exact HBk.out | exact below_drew1 HBk.out)
                             rintro e w6 ⟨rfl, hb6⟩
                             have hbt := HBk.out.trans ((undrew hb6).mono HBk.out.size)
                             have HX6 := Lib.hid (HXj.out.step hbt)
                             obtain ⟨z0, z1, z2, z3, z4, z5, z6⟩ := thy_cells' HX6.out.thy
                             dsimp only at z0 z1 z2 z3 z4 z5 z6
                             obtain ⟨x0, x1, x2⟩ := HX6.out.cells
                             have p0 := HP.out _ hbt
                             clear hb6 hbt))
                      all_goals
                        go_wp2
                        go_ret
                        exact ⟨rfl, HX6.out.below⟩
            · have hjz : ¬ (j : Int) < (ss.length : Int) := by omega
              have hx := HSX.out
              rw [List.drop_eq_nil_of_le (by omega), sortsX] at hx
              obtain rfl : (0 : Int) = E := hx
              clear HSX
              go_wp2
              go_ret
              exact ⟨rfl, HXj.out.below⟩
        · rw [if_pos hsn] at hE
          obtain rfl : (5 : Int) = E := hE
          have g2 : ((ss.length : Int) != n) = true := by simp [hsn]
          clear hsn
          go_wp2
          go_quiet (fail)
          go_wp2
          go_ret
          exact ⟨rfl, below_drewN HX4.out.below _⟩
      | false =>
        rw [hai, if_pos (by decide)] at hE
        obtain rfl : (10 : Int) = E := hE
        have g1 : (ai != (i : Int)) = true := by simp [bne, hai]
        clear hai
        go_wp2
        go_ret
        exact ⟨rfl, HX4.out.below⟩
    · have hcn : ci < 0 := by omega
      rw [decide_eq_false hci] at hE
      obtain rfl : (9 : Int) = E := hE
      clear HE hci
      go_wp2
      go_ret
      exact ⟨rfl, HX3.out.below⟩
end Go.Proofs.YthfomoigaoffgaaGreat.Rc
