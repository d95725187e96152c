/- Walks of sort.ground: a step of the depth. -/
import Derived.Test.YthfomoigaoffgaaGreatGda
import Derived.Deep.LoopGhost
namespace Go.Proofs.YthfomoigaoffgaaGreat.Gd
open Go Go.RowKit Go.Shelf Go.Proofs.YthfomoigaoffgaaGreat.K Go.Proofs.YthfomoigaoffgaaGreat.G Go.Proofs.YthfomoigaoffgaaGreat.Ix Go.Proofs.YthfomoigaoffgaaGreat.O Go.Proofs.YthfomoigaoffgaaGreat.So Go.Proofs.YthfomoigaoffgaaGreat.Nd
set_option linter.unusedSimpArgs false
set_option linter.unusedVariables false

/-- a type's cells -/
abbrev tyC (a b c d e : Value) : Array Value := #[a, b, c, d, e]
abbrev zTy : Array Value := #[.int .i64 0, .string ⟨#[]⟩, .int .i64 0, .slice none 0 0, .slice none 0 0]
theorem put5 {w : World} {g : Nat} {t : TypeId} {a0 a1 a2 a3 a4 : Value} (h : w.heap[g]? = some (.cells #[a0, a1, a2, a3, a4] t (0, 0))) (b0 b1 b2 b3 b4 : Value) :
    (((((w.setCell ⟨g, 0, none⟩ b0).setCell ⟨g, 1, none⟩ b1).setCell ⟨g, 2, none⟩ b2).setCell ⟨g, 3, none⟩ b3).setCell ⟨g, 4, none⟩ b4).heap[g]? = some (.cells #[b0, b1, b2, b3, b4] t (0, 0)) := by
  have h0 := Rf.put_cell h 0 b0
  have h1 := Rf.put_cell h0 1 b1
  have h2 := Rf.put_cell h1 2 b2
  have h3 := Rf.put_cell h2 3 b3
  have h4 := Rf.put_cell h3 4 b4
  simpa using h4
theorem chg5 (w : World) (g : Nat) (b0 b1 b2 b3 b4 : Value) : Chg (fun k => k = g) w (((((w.setCell ⟨g, 0, none⟩ b0).setCell ⟨g, 1, none⟩ b1).setCell ⟨g, 2, none⟩ b2).setCell ⟨g, 3, none⟩ b3).setCell ⟨g, 4, none⟩ b4) :=
  ((((Chg.setCell (T := fun k => k = g) (p := ⟨g, 0, none⟩) rfl b0).trans (Chg.setCell (T := fun k => k = g) (p := ⟨g, 1, none⟩) rfl b1)).trans (Chg.setCell (T := fun k => k = g) (p := ⟨g, 2, none⟩) rfl b2)).trans (Chg.setCell (T := fun k => k = g) (p := ⟨g, 3, none⟩) rfl b3)).trans (Chg.setCell (T := fun k => k = g) (p := ⟨g, 4, none⟩) rfl b4)
theorem cells5 {w : World} {g : Nat} {t : TypeId} {a0 a1 a2 a3 a4 : Value} (h : w.heap[g]? = some (.cells #[a0, a1, a2, a3, a4] t (0, 0))) : w.cell? ⟨g, 0, none⟩ = some a0 ∧ w.cell? ⟨g, 1, none⟩ = some a1 ∧ w.cell? ⟨g, 2, none⟩ = some a2 ∧ w.cell? ⟨g, 3, none⟩ = some a3 ∧ w.cell? ⟨g, 4, none⟩ = some a4 := by
  simp [World.cell?, h]
theorem frozen5 {w : World} {g : Nat} {t : TypeId} {cs : Array Value} (h : w.heap[g]? = some (.cells cs t (0, 0))) (i : Nat) : w.frozen? ⟨g, i, none⟩ = false := by
  simp [World.frozen?, h]
theorem own_slice {A : Option Addr} {n c k : Nat} (h : A.map (·.block) = some k) : (Value.slice A n c).ownBlock = some k := by cases A <;> simp_all [Value.ownBlock]
/-- what stays through the walk: the box of the theory, that of the result -/
structure GdB (r : Raw) (T : Thy) (w W : World) : Prop where
  thy : W.heap[w.heap.size]? = some (.cells (thyC r T) 29 (0, 0))
  res : W.heap[w.heap.size + 1]? = some (.cells zTy 42 (0, 0))
  below : Below w.heap.size w W
theorem GdB.lt {r : Raw} {T : Thy} {w W : World} (h : GdB r T w W) : w.heap.size + 2 ≤ W.heap.size := (Array.getElem?_eq_some_iff.1 h.res).1
theorem GdB.chg {r : Raw} {T : Thy} {w W W' : World} {Q : Nat → Prop} (h : GdB r T w W) (hc : Chg Q W W') (hq : ∀ k, Q k → w.heap.size + 2 ≤ k) : GdB r T w W' := by
  have := h.lt
  exact ⟨hc.obj h.thy (fun e => by have := hq _ e; omega), hc.obj h.res (fun e => by have := hq _ e; omega), h.below.trans (hc.below (by omega) (fun k hk => by have := hq _ hk; omega))⟩
theorem GdB.step {r : Raw} {T : Thy} {w W W' : World} (h : GdB r T w W) (hb : Below W.heap.size W W') : GdB r T w W' := h.chg (Q := fun _ => False) (Chg.of_fresh hb) (fun _ e => e.elim)
/-- what a type being made looks like: its block, its arguments so far -/
structure OutB (d B ob : Nat) (nm : ByteArray) (xs : List Tr) (v : Value) (W : World) : Prop where
  blk : W.heap[ob]? = some (.cells #[.int .i64 1, .string nm, .int .i64 0, .slice none 0 0, v] 42 (0, 0))
  mine : Mine (rdTr d) (ob + 1) (fun k => B ≤ k ∧ k ≠ ob) W v xs
theorem OutB.lt {d B ob : Nat} {nm : ByteArray} {xs : List Tr} {v : Value} {W : World} (h : OutB d B ob nm xs v W) : ob < W.heap.size := (Array.getElem?_eq_some_iff.1 h.blk).1
theorem OutB.step {d B ob : Nat} {nm : ByteArray} {xs : List Tr} {v : Value} {W W' : World} (h : OutB d B ob nm xs v W) (hb : Below W.heap.size W W') : OutB d B ob nm xs v W' := ⟨(hb.block _ h.lt).trans h.blk, h.mine.below hb⟩
theorem OutB.own {d B ob : Nat} {nm : ByteArray} {xs : List Tr} {v : Value} {W : World} (h : OutB d B ob nm xs v W) : ∀ k, v.ownBlock = some k → ob < k := fun k hk => (h.mine.base_le hk).1
/-- an argument is put behind the others -/
theorem OutB.put {d B ob : Nat} {nm : ByteArray} {xs xs' : List Tr} {v v' : Value} {W W' : World} (h : OutB d B ob nm xs v W) (hm : Mine (rdTr d) (ob + 1) (fun k => B ≤ k ∧ k ≠ ob) W' v' xs') (hg : W.grownBy W' v.ownBlock) :
    OutB d B ob nm xs' v' (W'.setCell ⟨ob, 4, none⟩ v') ∧ Chg (fun k => k = ob ∨ v.ownBlock = some k) W (W'.setCell ⟨ob, 4, none⟩ v') := by
  have hc : Chg (fun k => v.ownBlock = some k) W W' := Chg.grown hg (fun k e => .inl e)
  have hb1 := hc.obj h.blk (fun e => by have := h.own _ e; omega)
  have hcs : Chg (fun k => k = ob) W' (W'.setCell ⟨ob, 4, none⟩ v') := Chg.setCell (T := fun k => k = ob) rfl _
  have hp := Rf.put_cell hb1 4 v'
  refine ⟨⟨by simpa using hp, hm.chg hcs (fun k hk _ => hk.2) (fun k hk => by have := (hm.base_le hk).1; omega)⟩, (hc.mono (fun k e => .inr e)).trans (hcs.mono (fun k e => .inl e))⟩

set_option maxRecDepth 100000 in
set_option maxHeartbeats 8000000 in
theorem ground_step (r : Raw) (T : Thy) (S : Nat → Prop) (d : Nat) (hd : d ≤ 100) (hok : NeedOk T) (hrow : ∀ t s l, needB T.cls T.tys T.ars t s = some l → l.length ≤ 25 ∧ ∀ x ∈ l, x.length ≤ 25)
    (ih : ∀ (A : Option Addr) (c : Nat) (s : List ByteArray) (W : World), ThyR S W r T → C str Any W A s → s.length ≤ 25 → Calls Tryz.prog 28 #[thyV r T, .slice A s.length c, .int .i64 (d : Int)] W (GrEnd d W (groundB T.cls T.tys T.ars d s)))
    (A : Option Addr) (c : Nat) (s : List ByteArray) (w : World) (hT : ThyR S w r T) (hC : C str Any w A s) (hl : s.length ≤ 25) :
    Calls Tryz.prog 28 #[thyV r T, .slice A s.length c, .int .i64 ((d : Int) + 1)] w (GrEnd (d + 1) w (groundB T.cls T.tys T.ars (d + 1) s)) := by
  obtain ⟨nm, a1, c1, a2, c2, a3, c3, a4, n4, c4, a5, n5, c5, a6, n6, c6⟩ := r
  have HNd := Lib.hid (fun (W : World) (hb : Below w.heap.size w W) t => needed_calls S Any _ T t A c s W (hT.below hb) hok (hC.below hb) hl)
  have HIh := Lib.hid (fun (W : World) (hb : Below w.heap.size w W) A c s hC hl => ih A c s W (hT.below hb) hC hl)
  have HRow := Lib.hid hrow
  have HCt := Lib.hid (show C kTd S w a2 T.tys from hT.tys)
  have hl1 : T.tys.length ≤ 9223372036854775807 := hT.tys.len
  have hag := Tryz.isAgg29
  have hsz := Tryz.sizeOf29
  have hag2 := Tryz.isAgg42
  have hsz2 := Tryz.sizeOf42
  have hag3 := Tryz.isAgg54
  have hsz3 := Tryz.sizeOf54
  obtain ⟨W1, hW1⟩ : ∃ W1, (w.alloc (.cells (thyC ⟨nm, a1, c1, a2, c2, a3, c3, a4, n4, c4, a5, n5, c5, a6, n6, c6⟩ T) 29)).alloc (.cells zTy 42) = W1 := ⟨_, rfl⟩
  have hB1 : GdB ⟨nm, a1, c1, a2, c2, a3, c3, a4, n4, c4, a5, n5, c5, a6, n6, c6⟩ T w W1 := by
    refine ⟨?_, ?_, ?_⟩
    · rw [← hW1]; exact (Below.heap_alloc _ _ _ (by simp)).trans (World.alloc_heap_new w _)
    · rw [← hW1]
      have := World.alloc_heap_new (w.alloc (.cells (thyC ⟨nm, a1, c1, a2, c2, a3, c3, a4, n4, c4, a5, n5, c5, a6, n6, c6⟩ T) 29)) (.cells zTy 42)
      rwa [World.size_alloc] at this
    · rw [← hW1]; exact ((Below.refl _ _).alloc (Nat.le_refl _) _).alloc (by simp) _
  have HB1 := Lib.hid hB1
  obtain ⟨z0, z1, z2, z3, z4, z5, z6⟩ := thy_cells HB1.out.thy
  dsimp only at z0 z1 z2 z3 z4 z5 z6
  have g0 : ((d : Int) + 1 == 0) = false := beq_eq_false_iff_ne.2 (by omega)
  generalize hRR : groundB T.cls T.tys T.ars (d + 1) s = R
  have HR0 : Hid (firstG (fun t => needB T.cls T.tys T.ars t s) (fun x => groundB T.cls T.tys T.ars d x) (T.tys.drop 0) = R) := Lib.hid hRR
  clear hT hC hok hB1 hRR hrow ih
  unfold thyV
  unfold thyC at hW1 ⊢
  dsimp only at hW1 ⊢
  go_enter Tryz.func28, Tryz.ntmps28
  go_wp2
  go_step3
  go_wp2
  go_step3
  go_wp2
  clear z0 z1 z2 z3 z4 z5 z6 g0 hW1
  go_loopg [23] T.tys.length (fun gg v wr => ∃ k : Nat, v = .int .i64 k ∧ k ≤ T.tys.length ∧ T.tys.length - k ≤ gg ∧ Hid (firstG (fun t => needB T.cls T.tys T.ars t s) (fun x => groundB T.cls T.tys T.ars d x) (T.tys.drop k) = R) ∧
    Hid (GdB ⟨nm, a1, c1, a2, c2, a3, c3, a4, n4, c4, a5, n5, c5, a6, n6, c6⟩ T w wr))
  case atStart => exact ⟨0, rfl, by omega, by omega, HR0, HB1⟩
  case round =>
    clear HR0 HB1
    obtain ⟨k, rfl, hk, hg, HR, HB⟩ := hrel
    by_cases hlt : k < T.tys.length
    · have hltz : (k : Int) < (T.tys.length : Int) := by omega
      have hk0 : (0 : Int) ≤ (k : Int) := by omega
      have Hlt := Lib.hid hlt
      obtain ⟨b2, o2, rfl, hbw2, p0, p1⟩ := Ch.td_at (HCt.out.below HB.out.below) k hlt
      have hR := HR.out
      rw [List.drop_eq_getElem_cons hlt, firstG] at hR
      generalize T.tys[k]'hlt = td at p0 p1 hR
      obtain ⟨tn, ta⟩ := td
      dsimp only at p0 p1 hR
      obtain ⟨X, hX⟩ : ∃ X, wr.alloc (.cells #[.string tn, .int .i64 ta] 54) = X := ⟨_, rfl⟩
      have hx1 : Below wr.heap.size wr X := by rw [← hX]; exact (Below.refl _ _).alloc (Nat.le_refl _) _
      have HBX := Lib.hid (HB.out.step hx1)
      have HX := Lib.hid (show X.cell? ⟨wr.heap.size, 0, none⟩ = some (.string tn) by rw [← hX]; exact cells_at _ _ _ _ 0 rfl)
      obtain ⟨z0, z1, z2, z3, z4, z5, z6⟩ := thy_cells HBX.out.thy
      dsimp only at z0 z1 z2 z3 z4 z5 z6
      have x0 := HX.out
      have HD := Lib.hid (HNd.out X HBX.out.below tn)
      have HL := Lib.hid (HRow.out tn s)
      generalize needB T.cls T.tys T.ars tn s = D at HD hR HL
      have HR1 := Lib.hid hR
      clear hR HR hx1
      unfold thyV thyC at HD HIh
      dsimp only at HD HIh
      go_wp2_with fail
      refine HD.out.mono ?_
      rintro e w4 ⟨he4, hb4⟩
      have HB4 := Lib.hid (HBX.out.step hb4)
      have HX4 := Lib.hid ((hb4.cell (p := ⟨wr.heap.size, 0, none⟩) (lt_of_cell HX.out)).trans HX.out)
      have y0 := HX4.out
      clear hb4 z0 z1 z2 z3 z4 z5 z6 p0 p1 hX HBX HX HD x0
      cases D with
      | none =>
        obtain rfl := he4
        have hR := HR1.out
        have HR := Lib.hid (show firstG (fun t => needB T.cls T.tys T.ars t s) (fun x => groundB T.cls T.tys T.ars d x) (T.tys.drop (k + 1)) = R from hR)
        clear HR1 hR y0 HX4
        go_wp2
        go_roundg (T.tys.length - (k + 1))
        case measure => omega
        case rel => exact ⟨k + 1, by go_num, Hlt.out, Nat.le_refl _, HR, HB4⟩
      | some l =>
        obtain ⟨g, rfl, hg4, hCl⟩ := he4
        have HCl := Lib.hid hCl.bound
        have HL2 := Lib.hid (HL.out l rfl).2
        have hl25 := (HL.out l rfl).1
        have hlm : l.length ≤ 9223372036854775807 := hCl.len
        have hR := HR1.out
        dsimp only at hR
        have hb5 : Below w4.heap.size w4 (w4.alloc (.cells #[.int .i64 1, .string tn, .int .i64 0, .slice none 0 0, .slice none 0 0] 42)) := (Below.refl _ _).alloc (Nat.le_refl _) _
        have HB5 := Lib.hid (HB4.out.step hb5)
        have Hb5 := Lib.hid hb5
        have HO5 : Hid (OutB d (w.heap.size + 2) w4.heap.size tn [] (.slice none 0 0) (w4.alloc (.cells #[.int .i64 1, .string tn, .int .i64 0, .slice none 0 0, .slice none 0 0] 42))) := Lib.hid ⟨World.alloc_heap_new w4 _, Mine.nil ..⟩
        have hobl := HB4.out.lt
        have HA5 : Hid (allG (fun x => groundB T.cls T.tys T.ars d x) l = (allG (fun x => groundB T.cls T.tys T.ars d x) (l.drop 0)).map (fun r => [] ++ r)) := Lib.hid (by rw [List.drop_zero]; simp)
        have HR := Lib.hid hR
        clear hCl HL hR HR1 hg4 hb5
        go_wp2
        clear y0 HX4 HB4
        obtain ⟨W0, hW0⟩ : ∃ W0, W0 = wr := ⟨_, rfl⟩
        subst hW0
        go_loopg [42] l.length (fun gg v wr => ∃ (j : Nat) (xs : List Tr) (vo : Value), v = .int .i64 j ∧ j ≤ l.length ∧ l.length - j ≤ gg ∧ xs.length = j ∧
          Hid (allG (fun x => groundB T.cls T.tys T.ars d x) l = (allG (fun x => groundB T.cls T.tys T.ars d x) (l.drop j)).map (fun r => xs ++ r)) ∧ Hid (OutB d (w.heap.size + 2) w4.heap.size tn xs vo wr) ∧ Hid (Below w4.heap.size w4 wr) ∧
          Hid (GdB ⟨nm, a1, c1, some ⟨b2, o2, none⟩, c2, a3, c3, a4, n4, c4, a5, n5, c5, a6, n6, c6⟩ T w wr))
        case atStart => exact ⟨0, [], _, rfl, by omega, by omega, rfl, HA5, HO5, Hb5, HB5⟩
        case round =>
          clear HA5 HO5 Hb5 HB5
          obtain ⟨j, xs, vo, rfl, hj, hgj, hxl, HA, HO, Hb, HB⟩ := hrel
          by_cases hjl : j < l.length
          · have hjz : (j : Int) < (l.length : Int) := by omega
            have hj0 : (0 : Int) ≤ (j : Int) := by omega
            have Hjl := Lib.hid hjl
            obtain ⟨b6, o6, A6, cp6, e6, _, p0, hlc6, hC6⟩ := Ch.sl_at (HCl.out.belowN Hb.out (fun k hk => hk.2)) j hjl
            simp only [Option.some.injEq, Addr.mk.injEq, and_true] at e6
            obtain ⟨rfl, rfl⟩ := e6
            rw [Nat.zero_add] at p0
            have hA := HA.out
            rw [List.drop_eq_getElem_cons hjl, allG] at hA
            have hnl := HL2.out _ (List.getElem_mem hjl)
            generalize l[j]'hjl = n at p0 hlc6 hC6 hA hnl
            obtain ⟨z0, z1, z2, z3, z4, z5, z6⟩ := thy_cells HB.out.thy
            dsimp only at z0 z1 z2 z3 z4 z5 z6
            have HG := Lib.hid (HIh.out wr HB.out.below A6 cp6 n (hC6.mono (fun _ _ => trivial)) hnl)
            generalize groundB T.cls T.tys T.ars d n = G at HG hA
            have HA1 := Lib.hid hA
            have e1 : (d : Int) + 1 - 1 = (d : Int) := by omega
            clear hA HA hC6 hnl hlc6
            go_wp2_with fail
            refine HG.out.mono ?_
            rintro e w7 ⟨he7, hb7⟩
            have HB7 := Lib.hid (HB.out.step hb7)
            have HO7 := Lib.hid (HO.out.step hb7)
            have Hb7 := Lib.hid (Hb.out.trans (hb7.mono Hb.out.size))
            have hwl := hb7.size
            clear hb7 z0 z1 z2 z3 z4 z5 z6 p0 HG e1
            cases G with
            | none =>
              obtain rfl := he7
              have hA := HA1.out
              simp only [Option.map_none] at hA
              have hR := HR.out
              rw [hA] at hR
              have HR2 := Lib.hid (show firstG (fun t => needB T.cls T.tys T.ars t s) (fun x => groundB T.cls T.tys T.ars d x) (T.tys.drop (k + 1)) = R from hR)
              have HB8 := Lib.hid (HB7.out.step (((Below.refl _ w7).alloc (Nat.le_refl _) (.cells #[.int .i64 0, .string ⟨#[]⟩, .int .i64 0, .slice none 0 0, .slice none 0 0] 42))))
              clear hA hR HA1 HR HO HB Hb HB7 HO7 Hb7
              go_wp2
              go_roundg (T.tys.length - (k + 1))
              case measure => omega
              case rel => exact ⟨k + 1, by go_num, Hlt.out, Nat.le_refl _, HR2, HB8⟩
            | some x =>
              obtain ⟨nm7, n7, A7, c7, rfl, hK7⟩ := he7
              have hb8 : Below w7.heap.size w7 ((w7.alloc (.cells #[.int .i64 1, .string nm7, .int .i64 0, .slice none 0 0, .slice A7 n7 c7] 42)).alloc (.cells #[.int .i64 1, .string nm7, .int .i64 0, .slice none 0 0, .slice A7 n7 c7] 42)) := ((Below.refl _ _).alloc (Nat.le_refl _) _).alloc (by simp) _
              have ho8 := HO7.out.step hb8
              have hobw := HO.out.lt
              have hq := HO.out.mine
              have hh8 := World.alloc_heap_new (w7.alloc (.cells #[.int .i64 1, .string nm7, .int .i64 0, .slice none 0 0, .slice A7 n7 c7] 42)) (.cells #[.int .i64 1, .string nm7, .int .i64 0, .slice none 0 0, .slice A7 n7 c7] 42)
              rw [World.size_alloc] at hh8
              have hK8 := Rd.below ((rdTr d).mono (S' := fun k => ((w.heap.size + 2 ≤ k ∧ k ≠ w4.heap.size) ∧ vo.ownBlock ≠ some k)) (fun k (hk : wr.heap.size ≤ k) => ⟨⟨by omega, by omega⟩, fun e => by have := (hq.base_le e).2; omega⟩) hK7) hb8
              obtain ⟨v', w', hrun, hm', hgr, hown⟩ := append_tr (cs := [.int .i64 1, .string nm7, .int .i64 0, .slice none 0 0, .slice A7 n7 c7]) ho8.mine hh8 hK8 (by omega) (by simp; omega)
              obtain ⟨A', c', ev, _⟩ := hm'.form
              obtain ⟨n', hn'⟩ : ∃ n', n' = (xs ++ [x]).length := ⟨_, rfl⟩
              rw [← hn'] at ev
              subst ev
              have hput := ho8.put hm' hgr
              have hcg : Chg (fun k => vo.ownBlock = some k) _ w' := Chg.grown hgr (fun k e => .inl e)
              have hne : ¬ vo.ownBlock = some w4.heap.size := fun e => by have := ho8.own _ e; omega
              obtain ⟨_, _, _, _, q4⟩ := cells5 ho8.blk
              have pc2 := hcg.cell q4 hne
              have pf2 : w'.frozen? ⟨w4.heap.size, 4, none⟩ = false := frozen5 (hcg.obj ho8.blk hne) 4
              obtain ⟨_, _, _, _, q7⟩ := cells5 HO7.out.blk
              have hob7 := HO7.out.lt
              have HRun := Lib.hid hrun
              have HO9 := Lib.hid hput.1
              have HB9 := Lib.hid ((HB7.out.step hb8).chg hput.2 (fun k e => e.elim (fun e => by rw [e]; exact hobl) (fun e => by have := ho8.own _ e; omega)))
              have Hb9 := Lib.hid ((Hb7.out.trans (hb8.mono Hb7.out.size)).trans (hput.2.below (Nat.le_trans Hb7.out.size hb8.size) (fun k e => e.elim (fun e => by omega) (fun e => by have := ho8.own _ e; omega))))
              have hA := HA1.out
              have HA9 : Hid (allG (fun x => groundB T.cls T.tys T.ars d x) l = (allG (fun x => groundB T.cls T.tys T.ars d x) (l.drop (j + 1))).map (fun r => (xs ++ [x]) ++ r)) := Lib.hid (by
                rw [hA]
                cases allG (fun x => groundB T.cls T.tys T.ars d x) (l.drop (j + 1)) with
                | none => rfl
                | some q => simp)
              have hxl2 : (xs ++ [x]).length = j + 1 := by simp [hxl]
              have Hxl := Lib.hid hxl2
              clear hb8 ho8 hq hh8 hK8 hrun hm' hgr hown hput hcg hne q4 hA HA1 hK7 hn' hxl2 HO HB Hb HB7 HO7 Hb7
              go_wp2_with (at_builtin; refine Lib.wpList_append_run _ rfl _ _ _ _ rfl _ _ rfl rfl _ _ HRun.out ?_)
              go_roundg (l.length - (j + 1))
              case measure => omega
              case rel => exact ⟨j + 1, _, _, by go_num, Hjl.out, Nat.le_refl _, Hxl.out, HA9, HO9, Hb9, HB9⟩
          · subst hxl
            have hjz : ¬ (xs.length : Int) < (l.length : Int) := by omega
            have hA := HA.out
            rw [List.drop_eq_nil_of_le (by omega), allG] at hA
            simp only [Option.map_some, List.append_nil] at hA
            have hR := HR.out
            rw [hA] at hR
            obtain rfl : some (Tr.con tn xs) = R := hR
            clear hA HA HR
            obtain ⟨Av, cv, rfl, hlv⟩ := HO.out.mine.form
            obtain ⟨q0, q1, q2, q3, q4⟩ := cells5 HO.out.blk
            obtain ⟨y0, y1, y2, y3, y4⟩ := cells5 HB.out.res
            have f0 := frozen5 HB.out.res 0
            have f1 := frozen5 HB.out.res 1
            have f2 := frozen5 HB.out.res 2
            have f3 := frozen5 HB.out.res 3
            have f4 := frozen5 HB.out.res 4
            have hp := put5 HB.out.res (.int .i64 1) (.string tn) (.int .i64 0) (.slice none 0 0) (.slice Av xs.length cv)
            have hc5 := chg5 wr (w.heap.size + 1) (.int .i64 1) (.string tn) (.int .i64 0) (.slice none 0 0) (.slice Av xs.length cv)
            have hC5 := ((HO.out.mine.read.2.2.mono (S' := fun k => w.heap.size + 2 ≤ k) (fun k hk => by
              rcases hk with hk | hk
              · exact hk.1
              · have := (HO.out.mine.base_le (k := k) (own_slice hk)).1; omega)).chg hc5 (fun k hk _ e => by omega)).mono (S' := fun k => w.heap.size ≤ k) (fun k hk => by omega)
            have Hp := Lib.hid hp
            have HC5 := Lib.hid hC5
            have Hc5 := Lib.hid (HB.out.below.trans (hc5.below (by have := HB.out.lt; omega) (fun k hk => by omega)))
            clear hp hc5 hC5
            go_wp2
            refine bodyPost_ret (gr_results rfl rfl Hp.out) rfl ?_
            exact ⟨⟨tn, xs.length, Av, cv, rfl, tn, xs, Av, cv, rfl, rfl, hlv, HC5.out⟩, Hc5.out⟩
    · have hltz : ¬ (k : Int) < (T.tys.length : Int) := by omega
      have hR := HR.out
      rw [List.drop_eq_nil_of_le (by omega), firstG] at hR
      subst hR
      obtain ⟨y0, y1, y2, y3, y4⟩ := cells5 HB.out.res
      have f0 := frozen5 HB.out.res 0
      have f1 := frozen5 HB.out.res 1
      have f2 := frozen5 HB.out.res 2
      have f3 := frozen5 HB.out.res 3
      have f4 := frozen5 HB.out.res 4
      have hp := put5 HB.out.res (.int .i64 0) (.string ⟨#[]⟩) (.int .i64 0) (.slice none 0 0) (.slice none 0 0)
      have hc5 := chg5 wr (w.heap.size + 1) (.int .i64 0) (.string ⟨#[]⟩) (.int .i64 0) (.slice none 0 0) (.slice none 0 0)
      have Hp := Lib.hid hp
      have Hc5 := Lib.hid (HB.out.below.trans (hc5.below (by have := HB.out.lt; omega) (fun k hk => by omega)))
      clear hp hc5
      go_wp2
      refine bodyPost_ret (gr_results rfl rfl Hp.out) rfl ?_
      exact ⟨rfl, Hc5.out⟩
end Go.Proofs.YthfomoigaoffgaaGreat.Gd
