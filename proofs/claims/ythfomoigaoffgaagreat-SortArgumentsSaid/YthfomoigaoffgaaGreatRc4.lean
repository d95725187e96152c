/- Walks of the reference's Check: regular. -/
import Derived.Test.YthfomoigaoffgaaGreatRc3
import Derived.Test.YthfomoigaoffgaaGreatAr3
namespace Go.Proofs.YthfomoigaoffgaaGreat.Rc
open Go Go.RowKit Go.Proofs.YthfomoigaoffgaaGreat.K Go.Proofs.YthfomoigaoffgaaGreat.G Go.Proofs.YthfomoigaoffgaaGreat.Ix Go.Proofs.YthfomoigaoffgaaGreat.O Go.Proofs.YthfomoigaoffgaaGreat.So Go.Proofs.YthfomoigaoffgaaGreat.Rf
set_option linter.unusedSimpArgs false
set_option linter.unusedVariables false

/-- along the classes, those marked -/
def regL (ok : ByteArray → Bool) : List Bool → List Cl → Bool
  | b :: l, c :: r => (!b || ok c.1) && regL ok l r
  | _, _ => true
/-- what holds of arities that have no error by themselves -/
def ArsOk (T : Thy) : Prop := (∀ a ∈ T.ars, has T.cls a.2.1 = true ∧ ∀ s ∈ a.2.2, knownB T.cls s = true) ∧ ∀ a ∈ T.ars, ∀ c b, findA T.ars a.1 c = some b → b.2.2.length = a.2.2.length

set_option maxRecDepth 100000 in
set_option maxHeartbeats 16000000 in
theorem regular_calls (S : Nat → Prop) (r : Raw) (T : Thy) (w : World) (hT : ThyR S w r T) (hR : Right [] T.cls) (hn : T.cls.length ≤ 1000000) (hok : ArsOk T) (i : Nat) (hi : i < T.ars.length) (p : Nat) (hp : p < T.cls.length) (ep : (T.cls[p]'hp).1 = (T.ars[i]'hi).2.1) :
    Calls Tryz.prog 50 #[thyV r T, .int .i64 (i : Int)] w fun e w' => e = .returned (.bool (regL (Ch.okC T.cls T.ars (T.ars[i]'hi).1 (T.ars[i]'hi).2.2) (abR T.cls (p + 1) ((List.replicate T.cls.length false).set p true)) T.cls)) ∧ Below w.heap.size w w' := by
  obtain ⟨nm, a1, c1, a2, c2, a3, c3, a4, n4, c4, a5, n5, c5, a6, n6, c6⟩ := r
  have HC := Lib.hid (show C kAr S w a3 T.ars from hT.ars)
  have HCc := Lib.hid (show C kCl S w a1 T.cls from hT.cls)
  have hlm : T.ars.length ≤ 9223372036854775807 := hT.ars.len
  have hlc' : T.cls.length ≤ 9223372036854775807 := hT.cls.len
  have HCl := Lib.hid (fun (W : World) (hb : Below w.heap.size w W) nm => Class_calls S _ T W (hT.below hb) nm)
  have HAb := Lib.hid (fun (W : World) (hb : Below w.heap.size w W) => Rf.above_calls S _ T W (hT.below hb) hR hn p hp)
  have HAr := Lib.hid (fun (W : World) (hb : Below w.heap.size w W) t c => arity_calls S _ T W (hT.below hb) t c)
  have HWi := Lib.hid (fun (W : World) (hb : Below w.heap.size w W) Aa Ab ca cb a b (hCa : C str S W Aa a) (hCb : C str S W Ab b) ka kb => within_calls S S S _ T Aa Ab ca cb a b W (hT.below hb) hR hn hCa hCb ka kb)
  have hcp := cidx_at hR hp
  rw [ep] at hcp
  have HOk := Lib.hid hok
  have hmi := List.getElem_mem hi
  have HKs := Lib.hid (hok.1 _ hmi).2
  have HLn := Lib.hid (hok.2 _ hmi)
  have hiz : (i : Int) < (T.ars.length : Int) := by omega
  have hi0 : (0 : Int) ≤ (i : Int) := by omega
  have hLl : (abR T.cls (p + 1) ((List.replicate T.cls.length false).set p true)).length = T.cls.length := by rw [abR_len]; simp
  generalize abR T.cls (p + 1) ((List.replicate T.cls.length false).set p true) = L at HAb hLl ⊢
  have HLl := Lib.hid hLl
  obtain ⟨b, o, As, cp, rfl, hbw, qw0, qw1, qw2, hlc, hCs⟩ := ar_keys HC.out i hi
  generalize T.ars[i]'hi = a at qw0 qw1 qw2 hlc hCs hcp HKs HLn ⊢
  obtain ⟨at_, ac, ss⟩ := a
  dsimp only at qw0 qw1 qw2 hlc hCs hcp HKs HLn ⊢
  have HCa := Lib.hid (fun (W : World) (hb : Below w.heap.size w W) => HCl.out W hb ac)
  rw [hcp] at HCa
  obtain ⟨ok, hokk⟩ : ∃ ok, ok = Ch.okC T.cls T.ars at_ ss := ⟨_, rfl⟩
  rw [← hokk]
  have HOkk := Lib.hid (fun x => (congrFun hokk x : ok x = Ch.okC T.cls T.ars at_ ss x))
  generalize hRR : regL ok L T.cls = R
  have HR := Lib.hid (show regL ok (L.drop 0) (T.cls.drop 0) = R from hRR)
  have HCs := Lib.hid hCs
  have hssl : ss.length ≤ 9223372036854775807 := hCs.len
  have hag := Tryz.isAgg29
  have hsz := Tryz.sizeOf29
  obtain ⟨W1, hW1⟩ : ∃ W1, w.alloc (.cells (thyC ⟨nm, a1, c1, a2, c2, some ⟨b, o, none⟩, c3, a4, n4, c4, a5, n5, c5, a6, n6, c6⟩ T) 29) = W1 := ⟨_, rfl⟩
  have hb1 : Below w.heap.size w W1 := by rw [← hW1]; exact (Below.refl _ _).alloc (Nat.le_refl _) _
  have hs1 : W1.heap.size = w.heap.size + 1 := by rw [← hW1]; simp
  have hst := OneB.start ⟨nm, a1, c1, a2, c2, some ⟨b, o, none⟩, c3, a4, n4, c4, a5, n5, c5, a6, n6, c6⟩ T at_ ac As ss.length cp w
  rw [hW1] at hst
  obtain ⟨_, _, _, y3, _⟩ := thy_cells' (show W1.heap[w.heap.size]? = some (.cells (thyC ⟨nm, a1, c1, a2, c2, some ⟨b, o, none⟩, c3, a4, n4, c4, a5, n5, c5, a6, n6, c6⟩ T) 29 (0, 0)) by rw [← hW1]; exact World.alloc_heap_new w _)
  dsimp only at y3
  have q0 := (hb1.cell (p := ⟨b, o + i * 3, none⟩) hbw).trans qw0
  have q1 := (hb1.cell (p := ⟨b, o + i * 3 + 1, none⟩) hbw).trans qw1
  have q2 := (hb1.cell (p := ⟨b, o + i * 3 + 2, none⟩) hbw).trans qw2
  obtain ⟨X, hX⟩ : ∃ X, W1.alloc (.cells #[.string at_, .string ac, .slice As ss.length cp] 50) = X := ⟨_, rfl⟩
  rw [hX] at hst
  have HX := Lib.hid hst
  obtain ⟨x0, x1, x2⟩ := HX.out.cells
  obtain ⟨z0, z1, z2, z3, z4, z5, z6⟩ := thy_cells' HX.out.thy
  dsimp only at z0 z1 z2 z3 z4 z5 z6
  clear hT hR hst hbw qw0 qw1 qw2 hCs hb1 hok hcp hRR hLl hmi hokk
  clear ep
  unfold thyV thyC at HCa HAr HAb HWi
  unfold thyV
  unfold thyC at hW1 ⊢
  dsimp only at HCa HAr HAb HWi hW1 ⊢
  go_enter Tryz.func50, Tryz.ntmps50
  go_wp2
  clear hW1 hX q0 q1 q2 y3 x0 x2
  go_region_held3 (fun W' => W'.cell? ⟨w.heap.size, 0, none⟩ = some (.string nm) ∧ W'.cell? ⟨w.heap.size, 1, none⟩ = some (.slice a1 T.cls.length c1) ∧ W'.cell? ⟨w.heap.size, 2, none⟩ = some (.slice a2 T.tys.length c2) ∧ W'.cell? ⟨w.heap.size, 3, none⟩ = some (.slice (some ⟨b, o, none⟩) T.ars.length c3) ∧
      W'.cell? ⟨w.heap.size, 4, none⟩ = some (.slice a4 n4 c4) ∧ W'.cell? ⟨w.heap.size, 5, none⟩ = some (.slice a5 n5 c5) ∧ W'.cell? ⟨w.heap.size, 6, none⟩ = some (.slice a6 n6 c6) ∧ W'.cell? ⟨w.heap.size + 1, 1, none⟩ = some (.string ac)) (go_keep)
    (first
      | (go_at_call 71
         (with_reducible refine (HCa.out _ ?_).mono ?_)
         (first | exact HX.out.below | exact below_drew1 HX.out.below)
         rintro e w2 ⟨rfl, hb2⟩
         have HX2 := Lib.hid (HX.out.step (undrew hb2))
         obtain ⟨z0, z1, z2, z3, z4, z5, z6⟩ := thy_cells' HX2.out.thy
         dsimp only at z0 z1 z2 z3 z4 z5 z6
         obtain ⟨x0, x1, x2⟩ := HX2.out.cells
         clear hb2 x0 x2)
      | (go_at_call 73
         (with_reducible refine (HAb.out _ ?_).mono ?_)
         (first | exact HX2.out.below | exact below_drew1 HX2.out.below)
         rintro e w3 ⟨rfl, hL, hb3⟩
         have HX3 := Lib.hid (HX2.out.step (by first | exact hb3 | exact undrew hb3))
         have HL : Hid (w3.heap[w2.heap.size + 1]? = some (.cells (boolsC L) 4 (0, 0))) := Lib.hid hL
         obtain ⟨z0, z1, z2, z3, z4, z5, z6⟩ := thy_cells' HX3.out.thy
         dsimp only at z0 z1 z2 z3 z4 z5 z6
         obtain ⟨x0, x1, x2⟩ := HX3.out.cells
         clear hb3 hL x0 x2))
  all_goals
    clear HX HX2 HCa HAb z0 z1 z2 z3 z4 z5 z6
    generalize w2.heap.size + 1 = g at HL ⊢
    go_wp2
    go_loopg [7] T.cls.length (fun gg v wr => ∃ k : Nat, v = .int .i64 k ∧ k ≤ T.cls.length ∧ T.cls.length - k ≤ gg ∧ Hid (regL ok (L.drop k) (T.cls.drop k) = R) ∧ Hid (OneB ⟨nm, a1, c1, a2, c2, some ⟨b, o, none⟩, c3, a4, n4, c4, a5, n5, c5, a6, n6, c6⟩ T at_ ac As ss.length cp w wr) ∧
      Hid (wr.heap[g]? = some (.cells (boolsC L) 4 (0, 0))))
    case atStart => exact ⟨0, rfl, by omega, by omega, HR, HX3, HL⟩
    case round =>
      clear HR HX3 HL
      obtain ⟨k, rfl, hk, hg, HR, HX, HL⟩ := hrel
      obtain ⟨x0, x1, x2⟩ := HX.out.cells
      obtain ⟨z0, z1, z2, z3, z4, z5, z6⟩ := thy_cells' HX.out.thy
      dsimp only at z0 z1 z2 z3 z4 z5 z6
      by_cases hlt : k < T.cls.length
      · have hltz : (k : Int) < (T.cls.length : Int) := by omega
        have hk0 : (0 : Int) ≤ (k : Int) := by omega
        have hkL : k < L.length := by have := HLl.out; omega
        have Hlt := Lib.hid hlt
        obtain ⟨bc, oc, rfl, hbc, qc⟩ := cl_name HCc.out k hlt
        have hr := HR.out
        rw [List.drop_eq_getElem_cons hlt, List.drop_eq_getElem_cons hkL, regL] at hr
        have qb := bool_cell HL.out (List.getElem?_eq_getElem hkL)
        generalize L[k]'hkL = mk at hr qb
        generalize (T.cls[k]'hlt).1 = cn at hr qc
        have HQ := Lib.hid (fun (W : World) (hb : Below w.heap.size w W) => (hb.cell (p := ⟨bc, oc + k * 2, none⟩) hbc).trans qc)
        clear HR hbc qc hkL
        cases mk with
        | false =>
          have HR2 := Lib.hid (show regL ok (L.drop (k + 1)) (T.cls.drop (k + 1)) = R from hr)
          clear hr
          go_wp2
          go_roundg (T.cls.length - (k + 1))
          case measure => omega
          case rel => exact ⟨k + 1, by go_num, Hlt.out, Nat.le_refl _, HR2, HX, HL⟩
        | true =>
          have hr : (ok cn && regL ok (L.drop (k + 1)) (T.cls.drop (k + 1))) = R := hr
          have hok2 := HOkk.out cn
          have HAx := Lib.hid (fun (W : World) (hb : Below w.heap.size w W) => HAr.out W hb at_ cn)
          have qn := HQ.out _ HX.out.below
          have Hai := Lib.hid (aidx_cases T.ars at_ cn)
          generalize aidx T.ars at_ cn = ai at HAx Hai
          have HR2 := Lib.hid hr
          have HOk2 := Lib.hid hok2
          clear hr hok2
          go_wp2
          clear x1 x2 qb
          go_region_held3 (fun W' => W'.cell? ⟨w.heap.size, 0, none⟩ = some (.string nm) ∧ W'.cell? ⟨w.heap.size, 1, none⟩ = some (.slice (some ⟨bc, oc, none⟩) T.cls.length c1) ∧ W'.cell? ⟨w.heap.size, 2, none⟩ = some (.slice a2 T.tys.length c2) ∧ W'.cell? ⟨w.heap.size, 3, none⟩ = some (.slice (some ⟨b, o, none⟩) T.ars.length c3) ∧
                W'.cell? ⟨w.heap.size, 4, none⟩ = some (.slice a4 n4 c4) ∧ W'.cell? ⟨w.heap.size, 5, none⟩ = some (.slice a5 n5 c5) ∧ W'.cell? ⟨w.heap.size, 6, none⟩ = some (.slice a6 n6 c6) ∧ W'.cell? ⟨w.heap.size + 1, 0, none⟩ = some (.string at_) ∧ W'.cell? ⟨bc, oc + k * 2, none⟩ = some (.string cn)) (go_keep)
            (first
              | (go_at_call 52
                 (with_reducible refine (HAx.out _ ?_).mono ?_)
                 (first | exact HX.out.below | exact below_drew1 HX.out.below)
                 rintro e w4 ⟨rfl, hb4⟩
                 have HX4 := Lib.hid (HX.out.step (undrew hb4))
                 have HL4 := Lib.hid (box_below HL.out (undrew hb4))
                 obtain ⟨z0, z1, z2, z3, z4, z5, z6⟩ := thy_cells' HX4.out.thy
                 dsimp only at z0 z1 z2 z3 z4 z5 z6
                 obtain ⟨x0, x1, x2⟩ := HX4.out.cells
                 have qn := HQ.out _ HX4.out.below
                 clear hb4 x1 x2))
          all_goals
            clear x0 z0 z1 z2 z3 z4 z5 z6 qn HX HL
            rcases Hai.out with ⟨rfl, e2⟩ | ⟨q, hq, rfl, e2⟩
            · obtain rfl : false = R := by
                have h1 := HOk2.out
                unfold Ch.okC at h1
                rw [e2] at h1
                have := HR2.out
                rw [h1] at this
                exact this
              clear HR2 HOk2 Hai e2
              go_wp2
              go_ret
              exact ⟨rfl, HX4.out.below⟩
            · have hqz : (q : Int) < (T.ars.length : Int) := by omega
              have hq0 : (0 : Int) ≤ (q : Int) := by omega
              have hqn : ¬ (q : Int) < 0 := by omega
              have hln := HLn.out cn _ e2
              have hkb := (HOk.out.1 _ (List.getElem_mem hq)).2
              obtain ⟨b5, o5, A5, cp5, hA5, hbw5, _, _, qw5, hlc5, hC5⟩ := ar_keys HC.out q hq
              simp only [Option.some.injEq, Addr.mk.injEq, and_true] at hA5
              obtain ⟨rfl, rfl⟩ := hA5
              have hz : ok cn = zipW T.cls ss (T.ars[q]'hq).2.2 := by
                rw [HOk2.out]
                unfold Ch.okC
                rw [e2]
              generalize (T.ars[q]'hq).2.2 = bs at hln hkb qw5 hlc5 hC5 hz
              have hbl : bs.length = ss.length := hln
              have HZ := Lib.hid (show zipW T.cls (ss.drop 0) (bs.drop 0) = ok cn from hz.symm)
              generalize ok cn = OK at HZ HR2
              have Hbl := Lib.hid hbl
              have HKb := Lib.hid hkb
              have HC5 := Lib.hid hC5
              have HQ5 := Lib.hid (fun (W : World) (hb : Below w.heap.size w W) => (hb.cell (p := ⟨b, o + q * 3 + 2, none⟩) hbw5).trans qw5)
              clear hln hkb hC5 hz hbl qw5 hbw5 Hai e2 HOk2
              go_wp2
              obtain ⟨W0, hW0⟩ : ∃ W0, W0 = wr := ⟨_, rfl⟩
              subst hW0
              go_loopg [9] ss.length (fun gg v wr => ∃ j : Nat, v = .int .i64 j ∧ j ≤ ss.length ∧ ss.length - j ≤ gg ∧ Hid (zipW T.cls (ss.drop j) (bs.drop j) = OK) ∧ Hid (Below w4.heap.size w4 wr))
              case atStart => exact ⟨0, rfl, by omega, by omega, HZ, Lib.hid (Below.refl _ _)⟩
              case round =>
                clear HZ
                obtain ⟨j, rfl, hj, hgj, HZ, HBj⟩ := hrel
                have HXj := Lib.hid (HX4.out.step HBj.out)
                obtain ⟨x0, x1, x2⟩ := HXj.out.cells
                obtain ⟨z0, z1, z2, z3, z4, z5, z6⟩ := thy_cells' HXj.out.thy
                dsimp only at z0 z1 z2 z3 z4 z5 z6
                have q5 := HQ5.out _ HXj.out.below
                by_cases hjl : j < ss.length
                · have hjl2 : j < bs.length := by have := Hbl.out; omega
                  have hjz : (j : Int) < (ss.length : Int) := by omega
                  have hjz2 : (j : Int) < (bs.length : Int) := by omega
                  have hj0 : (0 : Int) ≤ (j : Int) := by omega
                  have Hjl := Lib.hid hjl
                  obtain ⟨b6, o6, A6, cp6, rfl, hbw6, p0, hlc6, hC6⟩ := Rc.sl_at (HCs.out.below HXj.out.below) j hjl
                  obtain ⟨b7, o7, A7, cp7, rfl, hbw7, p1, hlc7, hC7⟩ := Rc.sl_at (HC5.out.below HXj.out.below) j hjl2
                  have hx := HZ.out
                  rw [List.drop_eq_getElem_cons hjl, List.drop_eq_getElem_cons hjl2, zipW] at hx
                  have k1 := HKs.out _ (List.getElem_mem hjl)
                  have k2 := HKb.out _ (List.getElem_mem hjl2)
                  generalize ss[j]'hjl = s at p0 hlc6 hC6 hx k1
                  generalize bs[j]'hjl2 = s2 at p1 hlc7 hC7 hx k2
                  have HP0 := Lib.hid (fun (W : World) (hb : Below wr.heap.size wr W) => (hb.cell (p := ⟨b6, o6 + j, none⟩) hbw6).trans p0)
                  have HP1 := Lib.hid (fun (W : World) (hb : Below wr.heap.size wr W) => (hb.cell (p := ⟨b7, o7 + j, none⟩) hbw7).trans p1)
                  have HWx := Lib.hid (fun (W : World) (hb : Below wr.heap.size wr W) => HWi.out W (HXj.out.below.trans (hb.mono HXj.out.below.size)) A6 A7 cp6 cp7 s s2 (hC6.below hb) (hC7.below hb) k1 k2)
                  generalize withinB T.cls s s2 = Z at HWx hx
                  have HX' := Lib.hid hx
                  clear hC6 hC7 k1 k2 hx HZ hbw6 hbw7 x0 x1
                  go_wp2
                  go_region_held3 (fun W' => W'.cell? ⟨w.heap.size, 0, none⟩ = some (.string nm) ∧ W'.cell? ⟨w.heap.size, 1, none⟩ = some (.slice (some ⟨bc, oc, none⟩) T.cls.length c1) ∧ W'.cell? ⟨w.heap.size, 2, none⟩ = some (.slice a2 T.tys.length c2) ∧ W'.cell? ⟨w.heap.size, 3, none⟩ = some (.slice (some ⟨b, o, none⟩) T.ars.length c3) ∧
                W'.cell? ⟨w.heap.size, 4, none⟩ = some (.slice a4 n4 c4) ∧ W'.cell? ⟨w.heap.size, 5, none⟩ = some (.slice a5 n5 c5) ∧ W'.cell? ⟨w.heap.size, 6, none⟩ = some (.slice a6 n6 c6) ∧ W'.cell? ⟨w.heap.size + 1, 2, none⟩ = some (.slice (some ⟨b6, o6, none⟩) ss.length cp) ∧ W'.cell? ⟨b6, o6 + j, none⟩ = some (.slice A6 s.length cp6) ∧ W'.cell? ⟨b, o + q * 3 + 2, none⟩ = some (.slice (some ⟨b7, o7, none⟩) bs.length cp5) ∧ W'.cell? ⟨b7, o7 + j, none⟩ = some (.slice A7 s2.length cp7)) (go_keep)
                    (first
                      | (go_at_call 74
                         (with_reducible refine (HWx.out _ ?_).mono ?_)
                         (first | exact Below.refl _ _ | exact below_drew1 (Below.refl _ _))
                         rintro e w5 ⟨rfl, hb5⟩
                         have HBk := Lib.hid (HBj.out.trans ((undrew hb5).mono HBj.out.size))
                         have HX5 := Lib.hid (HXj.out.step (undrew hb5))
                         obtain ⟨z0, z1, z2, z3, z4, z5, z6⟩ := thy_cells' HX5.out.thy
                         dsimp only at z0 z1 z2 z3 z4 z5 z6
                         obtain ⟨x0, x1, x2⟩ := HX5.out.cells
                         have p0 := HP0.out _ (undrew hb5)
                         have p1 := HP1.out _ (undrew hb5)
                         have q5 := HQ5.out _ HX5.out.below
                         clear hb5 x0 x1))
                  all_goals
                    cases Z with
                    | true =>
                      have HZ2 := Lib.hid (show zipW T.cls (ss.drop (j + 1)) (bs.drop (j + 1)) = OK from HX'.out)
                      clear HX'
                      go_wp2
                      go_roundg (ss.length - (j + 1))
                      case measure => omega
                      case rel => exact ⟨j + 1, by go_num, Hjl.out, Nat.le_refl _, HZ2, HBk⟩
                    | false =>
                      obtain rfl : false = OK := HX'.out
                      obtain rfl : false = R := HR2.out
                      clear HX' HR2
                      go_wp2
                      go_ret
                      exact ⟨rfl, HX5.out.below⟩
                · have hjz : ¬ (j : Int) < (ss.length : Int) := by omega
                  have hx := HZ.out
                  rw [List.drop_eq_nil_of_le (by omega), zipW] at hx
                  subst hx
                  have HR3 := Lib.hid (show regL ok (L.drop (k + 1)) (T.cls.drop (k + 1)) = R from HR2.out)
                  have HLj := Lib.hid (box_below HL4.out HBj.out)
                  clear HZ HR2
                  go_wp2
                  go_roundg (T.cls.length - (k + 1))
                  case measure => omega
                  case rel => exact ⟨k + 1, by go_num, Hlt.out, Nat.le_refl _, HR3, HXj, HLj⟩
      · have hltz : ¬ (k : Int) < (T.cls.length : Int) := by omega
        have hr := HR.out
        have hll := HLl.out
        rw [List.drop_eq_nil_of_le (by omega), List.drop_eq_nil_of_le (by omega)] at hr
        obtain rfl : true = R := hr
        clear HR
        go_wp2
        go_ret
        exact ⟨rfl, HX.out.below⟩
end Go.Proofs.YthfomoigaoffgaaGreat.Rc
