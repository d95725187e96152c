/- Walk of the reference's first: a step of the depth. -/
import Derived.Test.YthfomoigaoffgaaGreatRn12
import Derived.Test.YthfomoigaoffgaaGreatGd4
namespace Go.Proofs.YthfomoigaoffgaaGreat.Rn
open Go Go.RowKit Go.Shelf Go.Proofs.YthfomoigaoffgaaGreat.K Go.Proofs.YthfomoigaoffgaaGreat.G Go.Proofs.YthfomoigaoffgaaGreat.Ix Go.Proofs.YthfomoigaoffgaaGreat.O Go.Proofs.YthfomoigaoffgaaGreat.So Go.Proofs.YthfomoigaoffgaaGreat.Nd Go.Proofs.YthfomoigaoffgaaGreat.Gd
set_option linter.unusedSimpArgs false
set_option linter.unusedVariables false

/-- five cells, whatever they are -/
def raw5 : Rd Unit where
  sz := 5
  K := fun _ _ _ cs => cs.length = 5 ∧ ∀ u ∈ cs, u.oneCell' = true
  len := fun h => h.1
  one := fun h u hu => h.2 u hu
  bound := fun h => h
  mono := fun _ h => h
  move := fun _ h => h
theorem forget {α : Type} {d : Rd α} (hd : d.sz = 5) {base : Nat} {S : Nat → Prop} {w : World} {v : Value} {xs : List α} (h : Mine d base S w v xs) : Mine raw5 base (fun _ => True) w v (xs.map (fun _ => ())) := by
  obtain ⟨A, cap, e, h1, h2, h3⟩ := h
  refine ⟨A, cap, by rw [List.length_map]; exact e, by rw [List.length_map]; exact h1, h2, h3.imp id ?_⟩
  rintro ⟨g, o, e1, e2, e3, e4, e5⟩
  refine ⟨g, o, e1, e2, e3, fun j hj => e4 j (by rw [hd]; exact hj), fun j x hj => ?_⟩
  rw [List.getElem?_map] at hj
  obtain ⟨y, hy, _⟩ := Option.map_eq_some_iff.1 hj
  obtain ⟨cs, hK, hc⟩ := e5 j y hy
  refine ⟨cs, ⟨by rw [d.len hK, hd], fun u hu => d.one hK u hu⟩, fun i u hu => ?_⟩
  have := hc i u hu
  rw [hd] at this
  exact this
/-- whatever lies in five cells, appended to an own row -/
theorem append_raw {e base : Nat} {S : Nat → Prop} {w : World} {v : Value} {xs : List Tr} {cs : List Value} {b : Nat} {t : TypeId} (h : Mine (rdTr e) base S w v xs) (hb : w.heap[b]? = some (.cells cs.toArray t (0, 0))) (hcs : cs.length = 5) (h1 : ∀ u ∈ cs, u.oneCell' = true) (hv : v.ownBlock ≠ some b) (hl : xs.length ≤ 1000000) (hbase : base ≤ w.heap.size) :
    ∃ A' n' c' w', (Builtin.append_ #[40, 40] 40 #[v, .slice (some ⟨b, 0, none⟩) 1 1]).run Tryz.prog w = .ok (.slice A' n' c') w' ∧ w.grownBy w' v.ownBlock := by
  have hC : C raw5 (fun k => k = b) w (some ⟨b, 0, none⟩) [()] := ⟨by simp [maxLen], fun _ => ⟨b, 0, rfl, rfl, (Array.getElem?_eq_some_iff.1 hb).1, fun j x hj => by
    cases j with
    | succ j => simp at hj
    | zero =>
      refine ⟨cs, ⟨hcs, h1⟩, fun i u hu => ?_⟩
      have e1 : (0 + 0 * raw5.sz + i) = i := by omega
      rw [e1]
      simp [World.cell?, hb, hu]⟩⟩
  obtain ⟨A', n', c', w', hrun, _, _, hg, _⟩ := append_gen (c := 1) Tryz.underlying40 infoType rfl (by decide) (by decide) (forget (rdTr_sz e) h) hC (fun k hk => ⟨trivial, fun e => by subst hk; exact hv e⟩) (by simp; omega) hbase
  exact ⟨A', n', c', w', hrun, hg⟩
theorem rgr_results {tmps : Array Value} {W : World} {g : Nat} {b : Bool} {v0 v1 v2 v3 v4 : Value} (hs : tmps[6]?.getD undef = .pointer (some ⟨g, 0, none⟩)) (hb : tmps[7]?.getD undef = .bool b) (hc : W.heap[g]? = some (.cells #[v0, v1, v2, v3, v4] 42 (0, 0))) :
    (results Tryz.f29 tmps).run Tryz.prog W = .ok (.tuple #[.agg #[v0, v1, v2, v3, v4], .bool b]) W := by
  have hag := Tryz.isAgg42
  have hsz := Tryz.sizeOf42
  obtain ⟨c0, c1, c2, c3, c4⟩ := cells5 hc
  simp [results, Tryz.results29, go_sem, hs, hb, hag, hsz, c0, c1, c2, c3, c4]
/-- what Needed answers, as it lies there -/
def NdA (D : Option (List (List ByteArray))) (A : Option Addr) (n c : Nat) (ok : Bool) (W : World) : Prop := match D with
  | none => A = none ∧ n = 0 ∧ c = 0 ∧ ok = false
  | some l => ok = true ∧ n = l.length ∧ n ≤ c ∧ C (slice str) (fun _ => True) W A l
theorem RNdEnd.any {w w' : World} {D : Option (List (List ByteArray))} {e : Ending} (h : RNdEnd w D e w') : ∃ A n c ok, e = .returned (.tuple #[.slice A n c, .bool ok]) ∧ NdA D A n c ok w' ∧ Below w.heap.size w w' := by
  obtain ⟨h1, h2⟩ := h
  cases D with
  | none => exact ⟨none, 0, 0, false, h1, ⟨rfl, rfl, rfl, rfl⟩, h2⟩
  | some l =>
    obtain ⟨A, c, e1, e2, e3⟩ := h1
    exact ⟨A, _, c, true, e1, ⟨rfl, rfl, e2, e3⟩, h2⟩
/-- the arguments so far: all there, or one lacks -/
def FArg (f : List ByteArray → Option Tr) (l : List (List ByteArray)) (ok : Bool) (j : Nat) (xs : List Tr) : Prop :=
  if ok then xs.length = j ∧ allG f l = (allG f (l.drop j)).map (fun r => xs ++ r) else allG f l = none

theorem below5 {n : Nat} {w W : World} {g : Nat} (h : Below n w W) (hg : n ≤ g) (b0 b1 b2 b3 b4 : Value) : Below n w (((((W.setCell ⟨g, 0, none⟩ b0).setCell ⟨g, 1, none⟩ b1).setCell ⟨g, 2, none⟩ b2).setCell ⟨g, 3, none⟩ b3).setCell ⟨g, 4, none⟩ b4) :=
  ((((h.setCell (p := ⟨g, 0, none⟩) hg b0).setCell (p := ⟨g, 1, none⟩) hg b1).setCell (p := ⟨g, 2, none⟩) hg b2).setCell (p := ⟨g, 3, none⟩) hg b3).setCell (p := ⟨g, 4, none⟩) hg b4
/-- the type being made, as long as no argument lacks -/
def OutIf (ok : Bool) (d B ob : Nat) (nm : ByteArray) (xs : List Tr) (v : Value) (W : World) : Prop := ok = true → OutB d B ob nm xs v W
set_option maxRecDepth 100000 in
set_option maxHeartbeats 8000000 in
theorem rfirst_step (r : Raw) (T : Thy) (S : Nat → Prop) (d : Nat) (hd : d ≤ 100) (hok : NeedOk T) (hRT : RT T.cls T.tys T.ars) (hrow : ∀ t s l, needB T.cls T.tys T.ars t s = some l → l.length ≤ 25 ∧ ∀ x ∈ l, x.length ≤ 25)
    (ih : ∀ (A : Option Addr) (c : Nat) (s : List ByteArray) (W : World), ThyR S W r T → C str Any W A s → s.length ≤ 25 → Calls Tryz.prog 29 #[thyV r T, .slice A s.length c, .int .i64 (d : Int)] W (GrEnd d W (groundB T.cls T.tys T.ars d s)))
    (A : Option Addr) (c : Nat) (s : List ByteArray) (w : World) (hT : ThyR S w r T) (hC : C str Any w A s) (hl : s.length ≤ 25) :
    Calls Tryz.prog 29 #[thyV r T, .slice A s.length c, .int .i64 ((d : Int) + 1)] w (GrEnd (d + 1) w (groundB T.cls T.tys T.ars (d + 1) s)) := by
  obtain ⟨nm, a1, c1, a2, c2, a3, c3, a4, n4, c4, a5, n5, c5, a6, n6, c6⟩ := r
  have HNd := Lib.hid (fun (W : World) (hb : Below w.heap.size w W) t => (rneeded_calls S Any _ T t A c s W (hT.below hb) hok hRT (hC.below hb) hl).mono (fun _ _ h => h.any))
  have HIh := Lib.hid (fun (W : World) (hb : Below w.heap.size w W) A c s hC hl => ih A c s W (hT.below hb) hC hl)
  have HRow := Lib.hid hrow
  have HCt := Lib.hid (show C kTd S w a2 T.tys from hT.tys)
  have hl1 : T.tys.length ≤ 9223372036854775807 := hT.tys.len
  have hag := Tryz.isAgg29
  have hsz := Tryz.sizeOf29
  have hag2 := Tryz.isAgg42
  have hsz2 := Tryz.sizeOf42
  obtain ⟨W1, hW1⟩ : ∃ W1, (w.alloc (.cells (thyC ⟨nm, a1, c1, a2, c2, a3, c3, a4, n4, c4, a5, n5, c5, a6, n6, c6⟩ T) 29)).alloc (.cells zTy 42) = W1 := ⟨_, rfl⟩
  have hB1 : GdB ⟨nm, a1, c1, a2, c2, a3, c3, a4, n4, c4, a5, n5, c5, a6, n6, c6⟩ T w W1 := by
    refine ⟨?_, ?_, ?_⟩
    · rw [← hW1]; exact (Below.heap_alloc _ _ _ (by simp)).trans (World.alloc_heap_new w _)
    · rw [← hW1]
      have := World.alloc_heap_new (w.alloc (.cells (thyC ⟨nm, a1, c1, a2, c2, a3, c3, a4, n4, c4, a5, n5, c5, a6, n6, c6⟩ T) 29)) (.cells zTy 42)
      rwa [World.size_alloc] at this
    · rw [← hW1]; exact ((Below.refl _ _).alloc (Nat.le_refl _) _).alloc (by simp) _
  have HB1 := Lib.hid hB1
  have g0 : ((d : Int) + 1 > 0) := by omega
  have e1 : (d : Int) + 1 - 1 = (d : Int) := by omega
  generalize hRR : groundB T.cls T.tys T.ars (d + 1) s = R
  have HR0 : Hid (firstG (fun t => needB T.cls T.tys T.ars t s) (fun x => groundB T.cls T.tys T.ars d x) (T.tys.drop 0) = R) := Lib.hid hRR
  clear hT hC hok hB1 hRR hrow ih hRT
  unfold thyV
  unfold thyC at hW1 ⊢
  dsimp only at hW1 ⊢
  go_enter Tryz.func29, Tryz.ntmps29
  go_wp2
  clear hW1
  go_loopg [8] T.tys.length (fun gg v wr => ∃ k : Nat, v = .int .i64 k ∧ k ≤ T.tys.length ∧ T.tys.length - k ≤ gg ∧ Hid (firstG (fun t => needB T.cls T.tys T.ars t s) (fun x => groundB T.cls T.tys T.ars d x) (T.tys.drop k) = R) ∧
    Hid (GdB ⟨nm, a1, c1, a2, c2, a3, c3, a4, n4, c4, a5, n5, c5, a6, n6, c6⟩ T w wr))
  case atStart => exact ⟨0, rfl, by omega, by omega, HR0, HB1⟩
  case round =>
    clear HR0 HB1
    obtain ⟨k, rfl, hk, hg, HR, HB⟩ := hrel
    by_cases hlt : k < T.tys.length
    · have hltz : (k : Int) < (T.tys.length : Int) := by omega
      have hk0 : (0 : Int) ≤ (k : Int) := by omega
      have Hlt := Lib.hid hlt
      obtain ⟨b2, o2, rfl, hbw2, p0', p1'⟩ := Ch.td_at HCt.out k hlt
      have hR := HR.out
      rw [List.drop_eq_getElem_cons hlt, firstG] at hR
      generalize T.tys[k]'hlt = td at p0' p1' hR
      obtain ⟨tn, ta⟩ := td
      dsimp only at p0' hR
      have HP := Lib.hid (fun (W : World) (hb : Below w.heap.size w W) => (hb.cell (p := ⟨b2, o2 + k * 2, none⟩) hbw2).trans p0')
      obtain ⟨z0, z1, z2, z3, z4, z5, z6⟩ := thy_cells HB.out.thy
      dsimp only at z0 z1 z2 z3 z4 z5 z6
      have p0 := HP.out _ HB.out.below
      have HD := Lib.hid (fun W hb => HNd.out W hb tn)
      have HL := Lib.hid (HRow.out tn s)
      generalize needB T.cls T.tys T.ars tn s = D at HD hR HL
      have HR1 := Lib.hid hR
      have hbel := HB.out.below
      clear hR HR p0' p1' hbw2
      unfold thyV thyC at HD HIh
      dsimp only at HD HIh
      go_upto_region 4 with fail
      go_region_held3 (fun W' => W'.cell? ⟨w.heap.size, 0, none⟩ = some (.string nm) ∧ W'.cell? ⟨w.heap.size, 1, none⟩ = some (.slice a1 T.cls.length c1) ∧ W'.cell? ⟨w.heap.size, 2, none⟩ = some (.slice (some ⟨b2, o2, none⟩) T.tys.length c2) ∧ W'.cell? ⟨w.heap.size, 3, none⟩ = some (.slice a3 T.ars.length c3) ∧
          W'.cell? ⟨w.heap.size, 4, none⟩ = some (.slice a4 n4 c4) ∧ W'.cell? ⟨w.heap.size, 5, none⟩ = some (.slice a5 n5 c5) ∧ W'.cell? ⟨w.heap.size, 6, none⟩ = some (.slice a6 n6 c6) ∧ W'.cell? ⟨b2, o2 + k * 2, none⟩ = some (.string tn)) (go_keep)
        (first
          | (go_at_call 27
             (with_reducible refine (HD.out _ ?_).mono ?_)
             (first | exact hbel | exact Rf.below_drew1 hbel)
             rintro e w4 ⟨A4, m4, k4, ok4, rfl, hn4, hb4⟩
             have HN4 := Lib.hid hn4
             have HB4 := Lib.hid (HB.out.step (Rf.undrew hb4))
             clear hb4 hn4 z0 z1 z2 z3 z4 z5 z6 p0
             obtain ⟨z0, z1, z2, z3, z4, z5, z6⟩ := thy_cells HB4.out.thy
             dsimp only at z0 z1 z2 z3 z4 z5 z6
             have p0 := HP.out _ HB4.out.below))
      clear hbel
      cases D with
      | none =>
        obtain ⟨rfl, rfl, rfl, rfl⟩ := HN4.out
        have hR := HR1.out
        have HR := Lib.hid (show firstG (fun t => needB T.cls T.tys T.ars t s) (fun x => groundB T.cls T.tys T.ars d x) (T.tys.drop (k + 1)) = R from hR)
        have HB5 := Lib.hid (HB4.out.step ((Below.refl w4.heap.size w4).alloc (Nat.le_refl _) (.cells #[.int .i64 1, .string tn, .int .i64 0, .slice none 0 0, .slice none 0 0] 42)))
        clear hR HR1 HN4 HL HD
        go_wp2
        clear z0 z1 z2 z3 z4 z5 z6 p0 HB4
        obtain ⟨W0, hW0⟩ : ∃ W0, W0 = wr := ⟨_, rfl⟩
        subst hW0
        go_loopg [10, 12] 0 (fun gg v10 v12 wr => ∃ j : Nat, v12 = .int .i64 j ∧ j ≤ 0 ∧ v10 = .bool false ∧ Hid (GdB ⟨nm, a1, c1, some ⟨b2, o2, none⟩, c2, a3, c3, a4, n4, c4, a5, n5, c5, a6, n6, c6⟩ T w wr))
        case atStart => exact ⟨0, rfl, Nat.le_refl _, rfl, HB5⟩
        case round =>
          clear HB5
          obtain ⟨j, rfl, hj, rfl, HB⟩ := hrel
          have hjz : ¬ (j : Int) < 0 := by omega
          go_wp2
          go_roundg (T.tys.length - (k + 1))
          case measure => omega
          case rel => exact ⟨k + 1, by go_num, Hlt.out, Nat.le_refl _, HR, HB⟩
      | some l =>
        obtain ⟨rfl, rfl, hc4, hCl⟩ := HN4.out
        have HCl := Lib.hid hCl.bound
        have HL2 := Lib.hid (HL.out l rfl).2
        have hl25 := (HL.out l rfl).1
        have hlm : l.length ≤ 9223372036854775807 := hCl.len
        have hR := HR1.out
        dsimp only at hR
        have hb5 : Below w4.heap.size w4 (w4.alloc (.cells #[.int .i64 1, .string tn, .int .i64 0, .slice none 0 0, .slice none 0 0] 42)) := (Below.refl _ _).alloc (Nat.le_refl _) _
        have HB5 := Lib.hid (HB4.out.step hb5)
        have Hb5 := Lib.hid hb5
        have HO5 : Hid (OutIf true d (w.heap.size + 2) w4.heap.size tn [] (.slice none 0 0) (w4.alloc (.cells #[.int .i64 1, .string tn, .int .i64 0, .slice none 0 0, .slice none 0 0] 42))) := Lib.hid (fun _ => ⟨World.alloc_heap_new w4 _, Mine.nil ..⟩)
        have hobl := HB4.out.lt
        have HA5 : Hid (FArg (fun x => groundB T.cls T.tys T.ars d x) l true 0 []) := Lib.hid (by unfold FArg; rw [if_pos rfl]; exact ⟨rfl, by rw [List.drop_zero]; simp⟩)
        have HR := Lib.hid hR
        clear hCl HL hR HR1 hb5 HN4 HD
        go_wp2
        clear z0 z1 z2 z3 z4 z5 z6 p0 HB4
        obtain ⟨W0, hW0⟩ : ∃ W0, W0 = wr := ⟨_, rfl⟩
        subst hW0
        go_loopg [10, 12] l.length (fun gg v10 v12 wr => ∃ (j : Nat) (okb : Bool) (xs : List Tr) (vo : Value), v10 = .bool okb ∧ v12 = .int .i64 j ∧ j ≤ l.length ∧ l.length - j ≤ gg ∧ Hid (FArg (fun x => groundB T.cls T.tys T.ars d x) l okb j xs) ∧
          Hid (OutIf okb d (w.heap.size + 2) w4.heap.size tn xs vo wr) ∧ Hid (Below w4.heap.size w4 wr) ∧ Hid (GdB ⟨nm, a1, c1, some ⟨b2, o2, none⟩, c2, a3, c3, a4, n4, c4, a5, n5, c5, a6, n6, c6⟩ T w wr))
        case atStart => exact ⟨0, true, [], _, rfl, rfl, by omega, by omega, HA5, HO5, Hb5, HB5⟩
        case round =>
          clear HA5 HO5 Hb5 HB5
          obtain ⟨j, okb, xs, vo, rfl, rfl, hj, hgj, HA, HO, Hb, HB⟩ := hrel
          cases okb with
          | false =>
            have hA := HA.out
            unfold FArg at hA
            rw [if_neg (by decide)] at hA
            have hR := HR.out
            rw [hA] at hR
            have HR2 := Lib.hid (show firstG (fun t => needB T.cls T.tys T.ars t s) (fun x => groundB T.cls T.tys T.ars d x) (T.tys.drop (k + 1)) = R from hR)
            clear hA hR HA HO HR
            by_cases hjl : j < l.length
            · have hjz : (j : Int) < (l.length : Int) := by omega
              go_wp2
              go_roundg (T.tys.length - (k + 1))
              case measure => omega
              case rel => exact ⟨k + 1, by go_num, Hlt.out, Nat.le_refl _, HR2, HB⟩
            · have hjz : ¬ (j : Int) < (l.length : Int) := by omega
              go_wp2
              go_roundg (T.tys.length - (k + 1))
              case measure => omega
              case rel => exact ⟨k + 1, by go_num, Hlt.out, Nat.le_refl _, HR2, HB⟩
          | true =>
            have hA := HA.out
            unfold FArg at hA
            rw [if_pos rfl] at hA
            obtain ⟨hxl, hA⟩ := hA
            have HO := Lib.hid (HO.out rfl)
            by_cases hjl : j < l.length
            · have hjz : (j : Int) < (l.length : Int) := by omega
              have hj0 : (0 : Int) ≤ (j : Int) := by omega
              have Hjl := Lib.hid hjl
              obtain ⟨b6, o6, A6, cp6, rfl, hbw6, p0, hlc6, hC6⟩ := Ch.sl_at (HCl.out.belowN Hb.out (fun k hk => hk.2)) j hjl
              rw [List.drop_eq_getElem_cons hjl, allG] at hA
              have hnl := HL2.out _ (List.getElem_mem hjl)
              generalize l[j]'hjl = n at p0 hlc6 hC6 hA hnl
              obtain ⟨z0, z1, z2, z3, z4, z5, z6⟩ := thy_cells HB.out.thy
              dsimp only at z0 z1 z2 z3 z4 z5 z6
              have hdr : Below wr.heap.size wr wr.drew := ⟨rfl, rfl, rfl, Nat.le_refl _, fun _ _ => rfl⟩
              have hdra : Below wr.heap.size wr (wr.alloc (.cells #[.int .i64 0, .string ⟨#[]⟩, .int .i64 0, .slice none 0 0, .slice none 0 0] 42)).drew := Rf.below_drew1 ((Below.refl wr.heap.size wr).alloc (Nat.le_refl _) _)
              have hha : (wr.alloc (.cells #[.int .i64 0, .string ⟨#[]⟩, .int .i64 0, .slice none 0 0, .slice none 0 0] 42)).drew.heap[wr.heap.size]? = some (.cells #[.int .i64 0, .string ⟨#[]⟩, .int .i64 0, .slice none 0 0, .slice none 0 0] 42 (0, 0)) := World.alloc_heap_new wr _
              have hsa : wr.heap.size < (wr.alloc (.cells #[.int .i64 0, .string ⟨#[]⟩, .int .i64 0, .slice none 0 0, .slice none 0 0] 42)).drew.heap.size := (Array.getElem?_eq_some_iff.1 hha).1
              have HG := Lib.hid (fun (W : World) (hb : Below wr.heap.size wr W) => HIh.out W (HB.out.below.trans (hb.mono HB.out.below.size)) A6 cp6 n ((hC6.below hb).mono (fun _ _ => trivial)) hnl)
              have HKp := Lib.hid (fun (W : World) (hb : Below wr.heap.size wr W) => And.intro ((hb.cell (p := ⟨w.heap.size, 0, none⟩) (lt_of_cell z0)).trans z0) (And.intro ((hb.cell (p := ⟨w.heap.size, 1, none⟩) (lt_of_cell z1)).trans z1) (And.intro ((hb.cell (p := ⟨w.heap.size, 2, none⟩) (lt_of_cell z2)).trans z2) (And.intro ((hb.cell (p := ⟨w.heap.size, 3, none⟩) (lt_of_cell z3)).trans z3)
                (And.intro ((hb.cell (p := ⟨w.heap.size, 4, none⟩) (lt_of_cell z4)).trans z4) (And.intro ((hb.cell (p := ⟨w.heap.size, 5, none⟩) (lt_of_cell z5)).trans z5) (And.intro ((hb.cell (p := ⟨w.heap.size, 6, none⟩) (lt_of_cell z6)).trans z6) ((hb.cell (p := ⟨b6, o6 + j, none⟩) hbw6).trans p0))))))))
              generalize groundB T.cls T.tys T.ars d n = G at HG hA
              have HA1 := Lib.hid hA
              have Hxl := Lib.hid hxl
              have hwl := Hb.out.size
              have hwd1 : IntKind.i64.wrap ((d : Int) + 1 - 1) = (d : Int) := by rw [IntKind.wrap_i64]; omega
              have hwd2 : IntKind.i64.wrap (d : Int) = (d : Int) := by rw [IntKind.wrap_i64]; omega
              clear hA HA hC6 hnl hlc6 hxl
              cases G with
              | none =>
                have HG := Lib.hid (fun W hb => (HG.out W hb).mono (R' := fun e w' => e = .returned (.tuple #[.agg #[.int .i64 0, .string ⟨#[]⟩, .int .i64 0, .slice none 0 0, .slice none 0 0], .bool false]) ∧ Below W.heap.size W w') (fun e w' h => h))
                go_upto_region 9 with fail
                go_region_held3 (fun W' => W'.cell? ⟨w.heap.size, 0, none⟩ = some (.string nm) ∧ W'.cell? ⟨w.heap.size, 1, none⟩ = some (.slice a1 T.cls.length c1) ∧ W'.cell? ⟨w.heap.size, 2, none⟩ = some (.slice (some ⟨b2, o2, none⟩) T.tys.length c2) ∧ W'.cell? ⟨w.heap.size, 3, none⟩ = some (.slice a3 T.ars.length c3) ∧
                    W'.cell? ⟨w.heap.size, 4, none⟩ = some (.slice a4 n4 c4) ∧ W'.cell? ⟨w.heap.size, 5, none⟩ = some (.slice a5 n5 c5) ∧ W'.cell? ⟨w.heap.size, 6, none⟩ = some (.slice a6 n6 c6) ∧ W'.cell? ⟨b6, o6 + j, none⟩ = some (.slice A6 n.length cp6))
                  ((with_reducible (refine HKp.out _ ?_; first | exact hdr | exact hdra | exact hb7w | exact hb7w.alloc hb7w.size _ | exact below5 (hb7w.alloc hb7w.size _) hb7w.size _ _ _ _ _ | exact below5 hb7w (Nat.le_refl _) _ _ _ _ _)))
                  (first
                    | (go_at_call 29
                       (with_reducible refine (HG.out _ hdr).mono ?_)
                       rintro e w7 ⟨rfl, hb7⟩
                       have hb7w : Below wr.heap.size wr w7 := hdr.trans hb7
                       have hA7 := World.alloc_heap_new w7 (.cells #[.int .i64 0, .string ⟨#[]⟩, .int .i64 0, .slice none 0 0, .slice none 0 0] 42)
                       obtain ⟨y0, y1, y2, y3, y4⟩ := cells5 hA7
                       have f0 := frozen5 hA7 0
                       have f1 := frozen5 hA7 1
                       have f2 := frozen5 hA7 2
                       have f3 := frozen5 hA7 3
                       have f4 := frozen5 hA7 4
                       have isA := True.intro
                       have HW8 := Lib.hid (And.intro (hb7w.alloc hb7w.size (.cells #[.int .i64 0, .string ⟨#[]⟩, .int .i64 0, .slice none 0 0, .slice none 0 0] 42)) (World.alloc_heap_new w7 (.cells #[.int .i64 0, .string ⟨#[]⟩, .int .i64 0, .slice none 0 0, .slice none 0 0] 42))))
                    | (go_at_call 29
                       (with_reducible refine (HG.out _ hdra).mono ?_)
                       rintro e w7 ⟨rfl, hb7⟩
                       have hb7w : Below wr.heap.size wr w7 := hdra.trans (hb7.mono hdra.size)
                       have hA7 := (hb7.block _ hsa).trans hha
                       obtain ⟨y0, y1, y2, y3, y4⟩ := cells5 hA7
                       have f0 := frozen5 hA7 0
                       have f1 := frozen5 hA7 1
                       have f2 := frozen5 hA7 2
                       have f3 := frozen5 hA7 3
                       have f4 := frozen5 hA7 4
                       have isB := True.intro
                       have HW8 := Lib.hid (And.intro (below5 (g := wr.heap.size) hb7w (Nat.le_refl _) (.int .i64 0) (.string ⟨#[]⟩) (.int .i64 0) (.slice none 0 0) (.slice none 0 0)) (put5 hA7 (.int .i64 0) (.string ⟨#[]⟩) (.int .i64 0) (.slice none 0 0) (.slice none 0 0)))))
                all_goals
                  clear y0 y1 y2 y3 y4 f0 f1 f2 f3 f4 z0 z1 z2 z3 z4 z5 z6 p0 hA7 hb7w hb7
                  try (rename_i hq; clear hq)
                  first
                    | (clear isA
                       generalize hW : w7.alloc (.cells #[.int .i64 0, .string ⟨#[]⟩, .int .i64 0, .slice none 0 0, .slice none 0 0] 42) = W8 at HW8 ⊢
                       clear hW)
                    | (clear isB
                       generalize hW : (((((w7.setCell ⟨wr.heap.size, 0, none⟩ (.int .i64 0)).setCell ⟨wr.heap.size, 1, none⟩ (.string ⟨#[]⟩)).setCell ⟨wr.heap.size, 2, none⟩ (.int .i64 0)).setCell ⟨wr.heap.size, 3, none⟩ (.slice none 0 0)).setCell ⟨wr.heap.size, 4, none⟩ (.slice none 0 0)) = W8 at HW8 ⊢
                       clear hW)
                  have hb8 := HW8.out.1
                  have HB8 := Lib.hid (HB.out.step hb8)
                  have ho8 := HO.out.step hb8
                  obtain ⟨y0, y1, y2, y3, y4⟩ := cells5 HW8.out.2
                  have hb9 : Below W8.heap.size W8 (W8.alloc (.cells #[.int .i64 0, .string ⟨#[]⟩, .int .i64 0, .slice none 0 0, .slice none 0 0] 42)) := (Below.refl _ _).alloc (Nat.le_refl _) _
                  have ho9 := ho8.step hb9
                  obtain ⟨A', n', c', w', hrun, hgr⟩ := append_raw (cs := [.int .i64 0, .string ⟨#[]⟩, .int .i64 0, .slice none 0 0, .slice none 0 0]) ho9.mine (World.alloc_heap_new W8 _) rfl (fun u hu => by simp only [List.mem_cons, List.not_mem_nil, or_false] at hu; rcases hu with rfl | rfl | rfl | rfl | rfl <;> rfl) (fun e => by have := (ho8.mine.base_le e).2; omega) (by have := Hxl.out; omega) (by have := ho9.lt; omega)
                  have hcg : Chg (fun k => vo.ownBlock = some k) _ w' := Chg.grown hgr (fun k e => .inl e)
                  have hne : ¬ vo.ownBlock = some w4.heap.size := fun e => by have := ho8.own _ e; omega
                  obtain ⟨_, _, _, _, q4⟩ := cells5 ho9.blk
                  have pc2 := hcg.cell q4 hne
                  have pf2 : w'.frozen? ⟨w4.heap.size, 4, none⟩ = false := frozen5 (hcg.obj ho9.blk hne) 4
                  obtain ⟨_, _, _, _, q7⟩ := cells5 ho8.blk
                  have hob8 := ho8.lt
                  have HRun := Lib.hid hrun
                  have hc2 : Chg (fun k => k = w4.heap.size ∨ vo.ownBlock = some k) _ (w'.setCell ⟨w4.heap.size, 4, none⟩ (.slice A' n' c')) := (hcg.mono (fun k e => .inr e)).trans ((Chg.setCell (T := fun k => k = w4.heap.size) (p := ⟨w4.heap.size, 4, none⟩) rfl (.slice A' n' c')).mono (fun k e => .inl e))
                  have HB10 := Lib.hid ((HB8.out.step hb9).chg hc2 (fun k e => e.elim (fun e => by rw [e]; exact hobl) (fun e => by have := ho8.own _ e; omega)))
                  have Hb10 := Lib.hid (((Hb.out.trans (hb8.mono Hb.out.size)).trans (hb9.mono (Nat.le_trans Hb.out.size hb8.size))).trans (hc2.below (Nat.le_trans (Nat.le_trans Hb.out.size hb8.size) hb9.size) (fun k e => e.elim (fun e => by omega) (fun e => by have := ho8.own _ e; omega))))
                  have HA9 : Hid (FArg (fun x => groundB T.cls T.tys T.ars d x) l false (j + 1) []) := Lib.hid (by unfold FArg; rw [if_neg (by decide)]; exact HA1.out)
                  have HO9 : Hid (OutIf false d (w.heap.size + 2) w4.heap.size tn [] (.slice A' n' c') (w'.setCell ⟨w4.heap.size, 4, none⟩ (.slice A' n' c'))) := Lib.hid (fun e => Bool.noConfusion e)
                  clear hb8 ho8 hb9 ho9 hrun hgr hcg hne q4 hc2 HA1 HO HB Hb HW8 HB8
                  go_wp2_with (at_builtin; refine Lib.wpList_append_run _ rfl _ _ _ _ rfl _ _ rfl rfl _ _ HRun.out ?_)
                  go_roundg (l.length - (j + 1))
                  case measure => omega
                  case rel => exact ⟨j + 1, false, [], _, rfl, by go_num, Hjl.out, Nat.le_refl _, HA9, HO9, Hb10, HB10⟩
              | some x =>
                have HG := Lib.hid (fun W hb => (HG.out W hb).mono (R' := fun e w' => (∃ nm n A c, e = .returned (.tuple #[.agg #[.int .i64 1, .string nm, .int .i64 0, .slice none 0 0, .slice A n c], .bool true]) ∧ (rdTr d).K (fun k => W.heap.size ≤ k) w' x [.int .i64 1, .string nm, .int .i64 0, .slice none 0 0, .slice A n c]) ∧ Below W.heap.size W w') (fun e w' h => h))
                go_upto_region 9 with fail
                go_region_held3 (fun W' => W'.cell? ⟨w.heap.size, 0, none⟩ = some (.string nm) ∧ W'.cell? ⟨w.heap.size, 1, none⟩ = some (.slice a1 T.cls.length c1) ∧ W'.cell? ⟨w.heap.size, 2, none⟩ = some (.slice (some ⟨b2, o2, none⟩) T.tys.length c2) ∧ W'.cell? ⟨w.heap.size, 3, none⟩ = some (.slice a3 T.ars.length c3) ∧
                    W'.cell? ⟨w.heap.size, 4, none⟩ = some (.slice a4 n4 c4) ∧ W'.cell? ⟨w.heap.size, 5, none⟩ = some (.slice a5 n5 c5) ∧ W'.cell? ⟨w.heap.size, 6, none⟩ = some (.slice a6 n6 c6) ∧ W'.cell? ⟨b6, o6 + j, none⟩ = some (.slice A6 n.length cp6))
                  ((with_reducible (refine HKp.out _ ?_; first | exact hdr | exact hdra | exact hb7w | exact hb7w.alloc hb7w.size _ | exact below5 (hb7w.alloc hb7w.size _) hb7w.size _ _ _ _ _ | exact below5 hb7w (Nat.le_refl _) _ _ _ _ _)))
                  (first
                    | (go_at_call 29
                       (with_reducible refine (HG.out _ hdr).mono ?_)
                       rintro e w7 ⟨⟨nm7, n7, A7, c7, rfl, hK7⟩, hb7⟩
                       have hb7w : Below wr.heap.size wr w7 := hdr.trans hb7
                       have hA7 := World.alloc_heap_new w7 (.cells #[.int .i64 0, .string ⟨#[]⟩, .int .i64 0, .slice none 0 0, .slice none 0 0] 42)
                       obtain ⟨y0, y1, y2, y3, y4⟩ := cells5 hA7
                       have f0 := frozen5 hA7 0
                       have f1 := frozen5 hA7 1
                       have f2 := frozen5 hA7 2
                       have f3 := frozen5 hA7 3
                       have f4 := frozen5 hA7 4
                       have isA := True.intro
                       have HW8 := Lib.hid (And.intro (hb7w.alloc hb7w.size (.cells #[.int .i64 1, .string nm7, .int .i64 0, .slice none 0 0, .slice A7 n7 c7] 42)) (And.intro (Rd.below ((rdTr d).mono (S' := fun k => wr.heap.size ≤ k) (fun k hk => hk) hK7) ((Below.refl w7.heap.size w7).alloc (Nat.le_refl _) (.cells #[.int .i64 1, .string nm7, .int .i64 0, .slice none 0 0, .slice A7 n7 c7] 42))) (World.alloc_heap_new w7 (.cells #[.int .i64 1, .string nm7, .int .i64 0, .slice none 0 0, .slice A7 n7 c7] 42)))))
                    | (go_at_call 29
                       (with_reducible refine (HG.out _ hdra).mono ?_)
                       rintro e w7 ⟨⟨nm7, n7, A7, c7, rfl, hK7⟩, hb7⟩
                       have hb7w : Below wr.heap.size wr w7 := hdra.trans (hb7.mono hdra.size)
                       have hA7 := (hb7.block _ hsa).trans hha
                       obtain ⟨y0, y1, y2, y3, y4⟩ := cells5 hA7
                       have f0 := frozen5 hA7 0
                       have f1 := frozen5 hA7 1
                       have f2 := frozen5 hA7 2
                       have f3 := frozen5 hA7 3
                       have f4 := frozen5 hA7 4
                       have isB := True.intro
                       have HW8 := Lib.hid (And.intro (below5 (g := wr.heap.size) hb7w (Nat.le_refl _) (.int .i64 1) (.string nm7) (.int .i64 0) (.slice none 0 0) (.slice A7 n7 c7)) (And.intro ((rdTr d).mono (S' := fun k => wr.heap.size ≤ k) (fun k hk => Nat.le_of_lt hk) (Rd.chg ((rdTr d).mono (S' := fun k => wr.heap.size < k) (fun k hk => Nat.lt_of_lt_of_le hsa hk) hK7) (chg5 w7 wr.heap.size (.int .i64 1) (.string nm7) (.int .i64 0) (.slice none 0 0) (.slice A7 n7 c7)) (fun k hk _ e => absurd e (Nat.ne_of_gt hk)))) (put5 hA7 (.int .i64 1) (.string nm7) (.int .i64 0) (.slice none 0 0) (.slice A7 n7 c7))))))
                all_goals
                  clear y0 y1 y2 y3 y4 f0 f1 f2 f3 f4 z0 z1 z2 z3 z4 z5 z6 p0 hA7 hb7w hb7
                  try (rename_i hq; clear hq)
                  first
                    | (clear isA
                       generalize hW : w7.alloc (.cells #[.int .i64 1, .string nm7, .int .i64 0, .slice none 0 0, .slice A7 n7 c7] 42) = W8 at HW8 ⊢
                       clear hW)
                    | (clear isB
                       generalize hW : (((((w7.setCell ⟨wr.heap.size, 0, none⟩ (.int .i64 1)).setCell ⟨wr.heap.size, 1, none⟩ (.string nm7)).setCell ⟨wr.heap.size, 2, none⟩ (.int .i64 0)).setCell ⟨wr.heap.size, 3, none⟩ (.slice none 0 0)).setCell ⟨wr.heap.size, 4, none⟩ (.slice A7 n7 c7)) = W8 at HW8 ⊢
                       clear hW)
                  have hb8 := HW8.out.1
                  have HB8 := Lib.hid (HB.out.step hb8)
                  have ho8 := HO.out.step hb8
                  obtain ⟨y0, y1, y2, y3, y4⟩ := cells5 HW8.out.2.2
                  have hb9 : Below W8.heap.size W8 (W8.alloc (.cells #[.int .i64 1, .string nm7, .int .i64 0, .slice none 0 0, .slice A7 n7 c7] 42)) := (Below.refl _ _).alloc (Nat.le_refl _) _
                  have ho9 := ho8.step hb9
                  have hobw := HO.out.lt
                  have hq := HO.out.mine
                  have hK9 := Rd.below ((rdTr d).mono (S' := fun k => ((w.heap.size + 2 ≤ k ∧ k ≠ w4.heap.size) ∧ vo.ownBlock ≠ some k)) (fun k (hk : wr.heap.size ≤ k) => ⟨⟨by omega, by omega⟩, fun e => by have := (hq.base_le e).2; omega⟩) HW8.out.2.1) hb9
                  obtain ⟨v', w', hrun, hm', hgr, hown⟩ := append_tr (cs := [.int .i64 1, .string nm7, .int .i64 0, .slice none 0 0, .slice A7 n7 c7]) ho9.mine (World.alloc_heap_new W8 _) hK9 (by have := Hxl.out; omega) (by have := ho9.lt; omega)
                  obtain ⟨A', c', ev, _⟩ := hm'.form
                  obtain ⟨n', hn'⟩ : ∃ n', n' = (xs ++ [x]).length := ⟨_, rfl⟩
                  rw [← hn'] at ev
                  subst ev
                  have hput := ho9.put hm' hgr
                  have hcg : Chg (fun k => vo.ownBlock = some k) _ w' := Chg.grown hgr (fun k e => .inl e)
                  have hne : ¬ vo.ownBlock = some w4.heap.size := fun e => by have := ho8.own _ e; omega
                  obtain ⟨_, _, _, _, q4⟩ := cells5 ho9.blk
                  have pc2 := hcg.cell q4 hne
                  have pf2 : w'.frozen? ⟨w4.heap.size, 4, none⟩ = false := frozen5 (hcg.obj ho9.blk hne) 4
                  obtain ⟨_, _, _, _, q7⟩ := cells5 ho8.blk
                  have hob8 := ho8.lt
                  have HRun := Lib.hid hrun
                  have HO9 : Hid (OutIf true d (w.heap.size + 2) w4.heap.size tn (xs ++ [x]) (.slice A' n' c') (w'.setCell ⟨w4.heap.size, 4, none⟩ (.slice A' n' c'))) := Lib.hid (fun _ => hput.1)
                  have HB10 := Lib.hid ((HB8.out.step hb9).chg hput.2 (fun k e => e.elim (fun e => by rw [e]; exact hobl) (fun e => by have := ho8.own _ e; omega)))
                  have Hb10 := Lib.hid (((Hb.out.trans (hb8.mono Hb.out.size)).trans (hb9.mono (Nat.le_trans Hb.out.size hb8.size))).trans (hput.2.below (Nat.le_trans (Nat.le_trans Hb.out.size hb8.size) hb9.size) (fun k e => e.elim (fun e => by omega) (fun e => by have := ho8.own _ e; omega))))
                  have hA := HA1.out
                  have HA9 : Hid (FArg (fun x => groundB T.cls T.tys T.ars d x) l true (j + 1) (xs ++ [x])) := Lib.hid (by
                    unfold FArg
                    rw [if_pos rfl]
                    refine ⟨by simp [Hxl.out], ?_⟩
                    rw [hA]
                    cases allG (fun x => groundB T.cls T.tys T.ars d x) (l.drop (j + 1)) with
                    | none => rfl
                    | some q => simp)
                  clear hb8 ho8 hb9 ho9 hq hK9 hrun hm' hgr hown hput hcg hne q4 hA HA1 hn' HO HB Hb HW8 HB8
                  try clear hK7
                  go_wp2_with (at_builtin; refine Lib.wpList_append_run _ rfl _ _ _ _ rfl _ _ rfl rfl _ _ HRun.out ?_)
                  go_roundg (l.length - (j + 1))
                  case measure => omega
                  case rel => exact ⟨j + 1, true, _, _, rfl, by go_num, Hjl.out, Nat.le_refl _, HA9, HO9, Hb10, HB10⟩
            · have hjz : ¬ (j : Int) < (l.length : Int) := by omega
              rw [List.drop_eq_nil_of_le (by omega), allG] at hA
              simp only [Option.map_some, List.append_nil] at hA
              have hR := HR.out
              rw [hA] at hR
              obtain rfl : some (Tr.con tn xs) = R := hR
              clear hA HA HR hxl
              obtain ⟨Av, cv, rfl, hlv⟩ := HO.out.mine.form
              obtain ⟨q0, q1, q2, q3, q4⟩ := cells5 HO.out.blk
              obtain ⟨y0, y1, y2, y3, y4⟩ := cells5 HB.out.res
              have f0 := frozen5 HB.out.res 0
              have f1 := frozen5 HB.out.res 1
              have f2 := frozen5 HB.out.res 2
              have f3 := frozen5 HB.out.res 3
              have f4 := frozen5 HB.out.res 4
              have hp := put5 HB.out.res (.int .i64 1) (.string tn) (.int .i64 0) (.slice none 0 0) (.slice Av xs.length cv)
              have hc5 := chg5 wr (w.heap.size + 1) (.int .i64 1) (.string tn) (.int .i64 0) (.slice none 0 0) (.slice Av xs.length cv)
              have hC5 := ((HO.out.mine.read.2.2.mono (S' := fun k => w.heap.size + 2 ≤ k) (fun k hk => by
                rcases hk with hk | hk
                · exact hk.1
                · have := (HO.out.mine.base_le (k := k) (own_slice hk)).1; omega)).chg hc5 (fun k hk _ e => by omega)).mono (S' := fun k => w.heap.size ≤ k) (fun k hk => by omega)
              have Hp := Lib.hid hp
              have HC5 := Lib.hid hC5
              have Hc5 := Lib.hid (HB.out.below.trans (hc5.below (by have := HB.out.lt; omega) (fun k hk => by omega)))
              clear hp hc5 hC5
              go_wp2
              refine bodyPost_ret (rgr_results rfl rfl Hp.out) rfl ?_
              exact ⟨⟨tn, xs.length, Av, cv, rfl, tn, xs, Av, cv, rfl, rfl, hlv, HC5.out⟩, Hc5.out⟩
    · have hltz : ¬ (k : Int) < (T.tys.length : Int) := by omega
      have hR := HR.out
      rw [List.drop_eq_nil_of_le (by omega), firstG] at hR
      subst hR
      obtain ⟨z0, z1, z2, z3, z4, z5, z6⟩ := thy_cells HB.out.thy
      dsimp only at z0 z1 z2 z3 z4 z5 z6
      obtain ⟨y0, y1, y2, y3, y4⟩ := cells5 HB.out.res
      have f0 := frozen5 HB.out.res 0
      have f1 := frozen5 HB.out.res 1
      have f2 := frozen5 HB.out.res 2
      have f3 := frozen5 HB.out.res 3
      have f4 := frozen5 HB.out.res 4
      have hp := put5 HB.out.res (.int .i64 0) (.string ⟨#[]⟩) (.int .i64 0) (.slice none 0 0) (.slice none 0 0)
      have hc5 := chg5 wr (w.heap.size + 1) (.int .i64 0) (.string ⟨#[]⟩) (.int .i64 0) (.slice none 0 0) (.slice none 0 0)
      have Hp := Lib.hid hp
      have Hc5 := Lib.hid (HB.out.below.trans (hc5.below (by have := HB.out.lt; omega) (fun k hk => by omega)))
      clear hp hc5
      go_wp2
      refine bodyPost_ret (rgr_results rfl rfl Hp.out) rfl ?_
      exact ⟨rfl, Hc5.out⟩
end Go.Proofs.YthfomoigaoffgaaGreat.Rn
namespace Go.Proofs.YthfomoigaoffgaaGreat.Rn
open Go Go.RowKit Go.Shelf Go.Proofs.YthfomoigaoffgaaGreat.K Go.Proofs.YthfomoigaoffgaaGreat.G Go.Proofs.YthfomoigaoffgaaGreat.Ix Go.Proofs.YthfomoigaoffgaaGreat.O Go.Proofs.YthfomoigaoffgaaGreat.So Go.Proofs.YthfomoigaoffgaaGreat.Nd Go.Proofs.YthfomoigaoffgaaGreat.Gd
set_option linter.unusedSimpArgs false
set_option linter.unusedVariables false

set_option maxRecDepth 100000 in
set_option maxHeartbeats 2000000 in
theorem rfirst0_calls (r : Raw) (T : Thy) (A : Option Addr) (c : Nat) (s : List ByteArray) (w : World) :
    Calls Tryz.prog 29 #[thyV r T, .slice A s.length c, .int .i64 0] w (GrEnd 0 w (groundB T.cls T.tys T.ars 0 s)) := by
  have hag := Tryz.isAgg29
  have hsz := Tryz.sizeOf29
  have hag2 := Tryz.isAgg42
  have hsz2 := Tryz.sizeOf42
  have HB1 : Hid (GdB r T w ((w.alloc (.cells (thyC r T) 29)).alloc (.cells zTy 42))) := Lib.hid (by
    refine ⟨(Below.heap_alloc _ _ _ (by simp)).trans (World.alloc_heap_new w _), ?_, ((Below.refl _ _).alloc (Nat.le_refl _) _).alloc (by simp) _⟩
    have := World.alloc_heap_new (w.alloc (.cells (thyC r T) 29)) (.cells zTy 42)
    rwa [World.size_alloc] at this)
  unfold thyV
  unfold thyC at HB1 ⊢
  go_enter Tryz.func29, Tryz.ntmps29
  go_wp2
  go_loopg [8] 0 (fun gg v wr => ∃ k : Nat, v = .int .i64 k ∧ k ≤ 0 ∧ Hid (GdB r T w wr))
  case atStart => exact ⟨0, rfl, Nat.le_refl _, HB1⟩
  case round =>
    clear HB1
    obtain ⟨k, rfl, hk, HB⟩ := hrel
    obtain ⟨z0, z1, z2, z3, z4, z5, z6⟩ := thy_cells HB.out.thy
    obtain ⟨y0, y1, y2, y3, y4⟩ := cells5 HB.out.res
    have f0 := frozen5 HB.out.res 0
    have f1 := frozen5 HB.out.res 1
    have f2 := frozen5 HB.out.res 2
    have f3 := frozen5 HB.out.res 3
    have f4 := frozen5 HB.out.res 4
    have hp := put5 HB.out.res (.int .i64 0) (.string ⟨#[]⟩) (.int .i64 0) (.slice none 0 0) (.slice none 0 0)
    have hc5 := chg5 wr (w.heap.size + 1) (.int .i64 0) (.string ⟨#[]⟩) (.int .i64 0) (.slice none 0 0) (.slice none 0 0)
    have Hp := Lib.hid hp
    have Hc5 := Lib.hid (HB.out.below.trans (hc5.below (by have := HB.out.lt; omega) (fun k hk => by omega)))
    clear hp hc5
    by_cases hlt : (k : Int) < (T.tys.length : Int)
    · go_wp2
      refine bodyPost_ret (rgr_results rfl rfl Hp.out) rfl ?_
      exact ⟨rfl, Hc5.out⟩
    · go_wp2
      refine bodyPost_ret (rgr_results rfl rfl Hp.out) rfl ?_
      exact ⟨rfl, Hc5.out⟩
theorem rfirst_calls (r : Raw) (T : Thy) (S : Nat → Prop) (hok : NeedOk T) (hRT : RT T.cls T.tys T.ars) (hrow : ∀ t s l, needB T.cls T.tys T.ars t s = some l → l.length ≤ 25 ∧ ∀ x ∈ l, x.length ≤ 25) : ∀ (d : Nat), d ≤ 100 → ∀ (A : Option Addr) (c : Nat) (s : List ByteArray) (W : World), ThyR S W r T → C str Any W A s → s.length ≤ 25 →
    Calls Tryz.prog 29 #[thyV r T, .slice A s.length c, .int .i64 (d : Int)] W (GrEnd d W (groundB T.cls T.tys T.ars d s))
  | 0, _ => fun A c s W hT hC hl => rfirst0_calls r T A c s W
  | d + 1, hd => fun A c s W hT hC hl => by
    rw [show ((d + 1 : Nat) : Int) = (d : Int) + 1 by omega]
    exact rfirst_step r T S d (by omega) hok hRT hrow (rfirst_calls r T S hok hRT hrow d (by omega)) A c s W hT hC hl
/-- Ground, as the reference computes it: it takes the sort as it is -/
theorem ground_ref (cs : List Cl) (ts : List Td) (ars : List Arx) (s : List ByteArray) (d : Int) : groundT cs ts ars s d = if checkT cs ts ars ≠ 0 then (none, checkT cs ts ars) else if sortsA cs [s] ≠ 0 then (none, sortsA cs [s]) else if d < 0 ∨ 5 < d then (none, 4) else (groundB cs ts ars d.toNat s, 0) := by
  unfold groundT
  by_cases h1 : checkT cs ts ars = 0
  · have g1 : ¬ (checkT cs ts ars ≠ 0) := fun e => e h1
    rw [if_neg g1, if_neg g1, norm_ref]
    by_cases h3 : sortsA cs [s] = 0
    · obtain ⟨_, k1⟩ := Rf.sorts_ok h3
      have hk := (k1 s (by simp)).1
      have g3 : ¬ (sortsA cs [s] ≠ 0) := fun e => e h3
      have g4 : ¬ ((leastB cs s, (0 : Int)).2 ≠ 0) := fun e => e rfl
      rw [if_neg g3, if_neg g4, if_neg g3, (rt_of h1).ground_least d.toNat hk]
    · rw [if_pos (show sortsA cs [s] ≠ 0 from h3), if_pos (show (([], sortsA cs [s]) : List ByteArray × Int).2 ≠ 0 from h3), if_pos (show sortsA cs [s] ≠ 0 from h3)]
  · have g1 : checkT cs ts ars ≠ 0 := h1
    rw [if_pos g1, if_pos g1]
theorem rgd_results {tmps : Array Value} {W : World} {g : Nat} {b : Bool} {x : Int} {v0 v1 v2 v3 v4 : Value} (hs : tmps[6]?.getD undef = .pointer (some ⟨g, 0, none⟩)) (hb : tmps[7]?.getD undef = .bool b) (hx : tmps[8]?.getD undef = .int .i64 x) (hc : W.heap[g]? = some (.cells #[v0, v1, v2, v3, v4] 42 (0, 0))) :
    (results Tryz.f13 tmps).run Tryz.prog W = .ok (.tuple #[.agg #[v0, v1, v2, v3, v4], .bool b, .int .i64 x]) W := by
  have hag := Tryz.isAgg42
  have hsz := Tryz.sizeOf42
  obtain ⟨c0, c1, c2, c3, c4⟩ := cells5 hc
  simp [results, Tryz.results13, go_sem, hs, hb, hx, hag, hsz, c0, c1, c2, c3, c4]

set_option maxRecDepth 100000 in
set_option maxHeartbeats 4000000 in
theorem rGround_calls (S Ss : Nat → Prop) (r : Raw) (T : Thy) (A : Option Addr) (c : Nat) (s : List ByteArray) (dp : Int) (w : World) (hT : ThyR S w r T) (hs : Ch.ArsS T) (hcl : T.cls.length ≤ 25) (hC : C str Ss w A s) (hca : s.length ≤ c) (hl : s.length ≤ 25) :
    Calls Tryz.prog 13 #[thyV r T, .slice A s.length c, .int .i64 dp] w (GdEnd dp.toNat w (groundT T.cls T.tys T.ars s dp)) := by
  have HCk := Lib.hid (fun (W : World) (hb : Below w.heap.size w W) => Rc.Check_calls S r T W (hT.below hb) hs.1)
  have HSo := Lib.hid (fun (W : World) (hb : Below w.heap.size w W) => Rf.sorts_calls S (fun _ => True) r T _ 1 [s] (W.alloc (.cells #[.slice A s.length c] 27)) (hT.below (hb.alloc hb.size _)) (one_sort (hC.below hb) hca))
  have HGd := Lib.hid (fun (h : checkT T.cls T.tys T.ars = 0) (W : World) (hb : Below w.heap.size w W) d hd => rfirst_calls r T S (needOk_of h hs) (rt_of h) (need_rows (needOk_of h hs) (rt_of h) hcl) d hd A c s W (hT.below hb) ((hC.below hb).mono (fun _ _ => trivial)) hl)
  have hag := Tryz.isAgg29
  have hsz := Tryz.sizeOf29
  have hag2 := Tryz.isAgg42
  have hsz2 := Tryz.sizeOf42
  have hB1 : GdB r T w ((w.alloc (.cells (thyC r T) 29)).alloc (.cells zTy 42)) := by
    refine ⟨(Below.heap_alloc _ _ _ (by simp)).trans (World.alloc_heap_new w _), ?_, ((Below.refl _ _).alloc (Nat.le_refl _) _).alloc (by simp) _⟩
    have := World.alloc_heap_new (w.alloc (.cells (thyC r T) 29)) (.cells zTy 42)
    rwa [World.size_alloc] at this
  have HB1 := Lib.hid hB1
  obtain ⟨z0, z1, z2, z3, z4, z5, z6⟩ := thy_cells HB1.out.thy
  generalize hRR : groundT T.cls T.tys T.ars s dp = R
  rw [ground_ref] at hRR
  have HR := Lib.hid hRR
  clear hT hC hs hRR hB1
  unfold thyV thyC at HCk HSo HGd
  unfold thyV
  unfold thyC at z0 z1 z2 z3 z4 z5 z6 ⊢
  go_enter Tryz.func13, Tryz.ntmps13
  go_wp2_with fail
  refine (HCk.out _ HB1.out.below).mono ?_
  rintro e w2 ⟨rfl, hb2⟩
  have HB2 := Lib.hid (HB1.out.step hb2)
  clear hb2 z0 z1 z2 z3 z4 z5 z6 HB1
  obtain ⟨y0, y1, y2, y3, y4⟩ := cells5 HB2.out.res
  have f0 := frozen5 HB2.out.res 0
  have f1 := frozen5 HB2.out.res 1
  have f2 := frozen5 HB2.out.res 2
  have f3 := frozen5 HB2.out.res 3
  have f4 := frozen5 HB2.out.res 4
  by_cases h1 : checkT T.cls T.tys T.ars = 0
  · have hR := HR.out
    rw [if_neg (fun e => e h1)] at hR
    have HGd := Lib.hid (HGd.out h1)
    rw [h1]
    have HR := Lib.hid hR
    obtain ⟨z0, z1, z2, z3, z4, z5, z6⟩ := thy_cells HB2.out.thy
    have HSo2 := Lib.hid (HSo.out w2 HB2.out.below)
    have HB3 := Lib.hid (HB2.out.step ((Below.refl w2.heap.size w2).alloc (Nat.le_refl _) (.cells #[.slice A s.length c] 27)))
    clear hR h1 y0 y1 y2 y3 y4 f0 f1 f2 f3 f4 HSo
    go_wp2_with fail
    refine HSo2.out.mono ?_
    rintro e w4 ⟨rfl, hb4⟩
    have HB4 := Lib.hid (HB3.out.step hb4)
    clear hb4 z0 z1 z2 z3 z4 z5 z6 HB2 HB3 HSo2
    obtain ⟨z0, z1, z2, z3, z4, z5, z6⟩ := thy_cells HB4.out.thy
    obtain ⟨y0, y1, y2, y3, y4⟩ := cells5 HB4.out.res
    have f0 := frozen5 HB4.out.res 0
    have f1 := frozen5 HB4.out.res 1
    have f2 := frozen5 HB4.out.res 2
    have f3 := frozen5 HB4.out.res 3
    have f4 := frozen5 HB4.out.res 4
    generalize sortsA T.cls [s] = en at HR ⊢
    by_cases he : en = 0
    · subst he
      have hR := HR.out
      rw [if_neg (fun e => e rfl)] at hR
      by_cases hd : dp < 0 ∨ 5 < dp
      · rw [if_pos hd] at hR
        subst hR
        have hz := res_zero HB4.out
        have Hp := Lib.hid hz.1
        have Hb := Lib.hid hz.2
        clear HR hz
        by_cases hd1 : dp < 0
        · clear hd
          go_wp2
          exact bodyPost_ret (rgd_results rfl rfl rfl Hp.out) rfl ⟨rfl, Hb.out⟩
        · have hd2 : 5 < dp := by omega
          clear hd
          go_wp2
          exact bodyPost_ret (rgd_results rfl rfl rfl Hp.out) rfl ⟨rfl, Hb.out⟩
      · rw [if_neg hd] at hR
        obtain ⟨d, rfl⟩ : ∃ d : Nat, dp = (d : Int) := ⟨dp.toNat, by omega⟩
        have hd1 : ¬ (d : Int) < 0 := by omega
        have hd2 : ¬ (5 : Int) < (d : Int) := by omega
        rw [Int.toNat_natCast] at hR ⊢
        have HG4 := Lib.hid (HGd.out w4 HB4.out.below d (by omega))
        generalize groundB T.cls T.tys T.ars d s = D at HG4 hR
        subst hR
        clear HR HGd hd y0 y1 y2 y3 y4 f0 f1 f2 f3 f4
        go_wp2_with fail
        refine HG4.out.mono ?_
        rintro e w5 ⟨he5, hb5⟩
        have HB5 := Lib.hid (HB4.out.step hb5)
        have hb54 := hb5.size
        have hw4 := HB4.out.lt
        clear z0 z1 z2 z3 z4 z5 z6 HB4 HG4
        cases D with
        | none =>
          obtain rfl := he5
          have HB6 := Lib.hid (HB5.out.step ((Below.refl _ _).alloc (Nat.le_refl _) (.cells zTy 42)))
          obtain ⟨y0, y1, y2, y3, y4⟩ := cells5 HB6.out.res
          have f0 := frozen5 HB6.out.res 0
          have f1 := frozen5 HB6.out.res 1
          have f2 := frozen5 HB6.out.res 2
          have f3 := frozen5 HB6.out.res 3
          have f4 := frozen5 HB6.out.res 4
          have hz := res_zero HB6.out
          have Hp := Lib.hid hz.1
          have Hb := Lib.hid hz.2
          have hlt := HB5.out.lt
          clear hz HB5 hb5
          go_wp2
          exact bodyPost_ret (rgd_results rfl rfl rfl Hp.out) rfl ⟨rfl, Hb.out⟩
        | some x =>
          obtain ⟨nm, n, A5, c5, rfl, hK⟩ := he5
          have hb6 : Below w5.heap.size w5 (w5.alloc (.cells #[.int .i64 1, .string nm, .int .i64 0, .slice none 0 0, .slice A5 n c5] 42)) := (Below.refl _ _).alloc (Nat.le_refl _) _
          have HB6 := Lib.hid (HB5.out.step hb6)
          obtain ⟨y0, y1, y2, y3, y4⟩ := cells5 HB6.out.res
          have f0 := frozen5 HB6.out.res 0
          have f1 := frozen5 HB6.out.res 1
          have f2 := frozen5 HB6.out.res 2
          have f3 := frozen5 HB6.out.res 3
          have f4 := frozen5 HB6.out.res 4
          have hp := put5 HB6.out.res (.int .i64 1) (.string nm) (.int .i64 0) (.slice none 0 0) (.slice A5 n c5)
          have hcc := chg5 (w5.alloc (.cells #[.int .i64 1, .string nm, .int .i64 0, .slice none 0 0, .slice A5 n c5] 42)) (w.heap.size + 1) (.int .i64 1) (.string nm) (.int .i64 0) (.slice none 0 0) (.slice A5 n c5)
          have Hp := Lib.hid hp
          have Hb := Lib.hid (HB6.out.below.trans (hcc.below (by have := HB6.out.lt; omega) (fun k hk => by omega)))
          have hlt := HB5.out.lt
          have HK := Lib.hid ((rdTr d).mono (S' := fun k => w.heap.size ≤ k) (fun k hk => by omega) (Rd.chg (Rd.below ((rdTr d).mono (S' := fun k => w.heap.size + 2 ≤ k) (fun k (hk : w4.heap.size ≤ k) => by omega) hK) hb6) hcc (fun k hk _ e => by omega)))
          clear hp hcc hK hb6 hb5 HB5
          go_wp2
          exact bodyPost_ret (rgd_results rfl rfl rfl Hp.out) rfl ⟨⟨nm, n, A5, c5, rfl, HK.out⟩, Hb.out⟩
    · have hR := HR.out
      rw [if_pos he] at hR
      subst hR
      have gE : (en != 0) = true := bne_iff_ne.2 he
      have hz := res_zero HB4.out
      have Hp := Lib.hid hz.1
      have Hb := Lib.hid hz.2
      clear HR hz he
      go_wp2
      exact bodyPost_ret (rgd_results rfl rfl rfl Hp.out) rfl ⟨rfl, Hb.out⟩
  · have hR := HR.out
    rw [if_pos h1] at hR
    generalize checkT T.cls T.tys T.ars = E at h1 hR
    subst hR
    have gE : (E != 0) = true := bne_iff_ne.2 h1
    have hz := res_zero HB2.out
    have Hp := Lib.hid hz.1
    have Hb := Lib.hid hz.2
    clear h1 HR hz
    go_wp2
    exact bodyPost_ret (rgd_results rfl rfl rfl Hp.out) rfl ⟨rfl, Hb.out⟩
end Go.Proofs.YthfomoigaoffgaaGreat.Rn
