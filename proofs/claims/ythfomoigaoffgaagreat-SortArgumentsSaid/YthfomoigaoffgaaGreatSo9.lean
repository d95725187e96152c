/- Walks of sort: least, Within. -/
import Derived.Test.YthfomoigaoffgaaGreatSo8
namespace Go.Proofs.YthfomoigaoffgaaGreat.So
open Go Go.RowKit Go.Shelf Go.Sort Go.Lib Go.Proofs.YthfomoigaoffgaaGreat.K Go.Proofs.YthfomoigaoffgaaGreat.G Go.Proofs.YthfomoigaoffgaaGreat.Ix Go.Proofs.YthfomoigaoffgaaGreat.O
set_option linter.unusedSimpArgs false
set_option linter.unusedVariables false

theorem thy_cells {r : Raw} {T : Thy} {bt : Nat} {W : World} (h : W.heap[bt]? = some (.cells (thyC r T) 29 (0, 0))) :
    W.cell? ⟨bt, 0, none⟩ = some (.string r.nm) ∧ W.cell? ⟨bt, 1, none⟩ = some (.slice r.a1 T.cls.length r.c1) ∧ W.cell? ⟨bt, 2, none⟩ = some (.slice r.a2 T.tys.length r.c2) ∧ W.cell? ⟨bt, 3, none⟩ = some (.slice r.a3 T.ars.length r.c3) ∧
    W.cell? ⟨bt, 4, none⟩ = some (.slice r.a4 r.n4 r.c4) ∧ W.cell? ⟨bt, 5, none⟩ = some (.slice r.a5 r.n5 r.c5) ∧ W.cell? ⟨bt, 6, none⟩ = some (.slice r.a6 r.n6 r.c6) := by
  simp [World.cell?, h, thyC]

theorem l21_calls (S : Nat → Prop) (r : Raw) (T : Thy) (bt bc : Nat) (c d : ByteArray) (W : World) (hT : AbT S r T bt bc c W) (hd : d.size ≤ maxLen) (hfew : (allSups T.cls).length ≤ 100000000) :
    Calls Tryz.prog 64 #[.string d, .pointer (some ⟨bc, 0, none⟩), .pointer (some ⟨bt, 0, none⟩)] W fun e W' => e = .returned (.bool (d != c && belowB T.cls d c)) ∧ Below W.heap.size W W' := by
  obtain ⟨z0, z1, z2, z3, z4, z5, z6⟩ := thy_cells hT.box
  have hag := Tryz.isAgg29
  have hsz := Tryz.sizeOf29
  have hc := hT.nm
  have HB := Lib.hid (fun W' (hb : Below W.heap.size W W') => below_calls S r T d c W' (hT.thy.below hb) hd hfew)
  have hne : (d != c) = !(d == c) := rfl
  have HE := Lib.hid (str_eq d c)
  clear hT
  cases hq : d == c with
  | true =>
    rw [hne, hq]
    have hq2 : (d.toList == c.toList) = true := by rw [HE.out]; exact hq
    have hq3 : (d.toList != c.toList) = false := by show (!(d.toList == c.toList)) = false; rw [hq2]; rfl
    clear hne hq HB
    go_enter Tryz.func64, Tryz.ntmps64
    go_wp2
    go_ret
    exact ⟨rfl, Below.refl _ _⟩
  | false =>
    rw [hne, hq]
    have hq2 : (d.toList == c.toList) = false := by rw [HE.out]; exact hq
    have hq3 : (d.toList != c.toList) = true := by show (!(d.toList == c.toList)) = true; rw [hq2]; rfl
    clear hne hq
    generalize belowB T.cls d c = R at HB ⊢
    go_enter Tryz.func64, Tryz.ntmps64
    go_wp2_with (go_at_call 65; refine (HB.out _ (Below.refl _ _)).mono ?_; rintro e w' ⟨rfl, hb⟩)
    go_ret
    exact ⟨by simp, hb⟩

theorem l2_calls (S Sa : Nat → Prop) (r : Raw) (T : Thy) (bt ba : Nat) (Aa : Option Addr) (ca : Nat) (al : List ByteArray) (c : ByteArray) (W : World) (hT : ThyR S W r T) (hbt : W.heap[bt]? = some (.cells (thyC r T) 29 (0, 0))) (hba : W.cell? ⟨ba, 0, none⟩ = some (.slice Aa al.length ca)) (hC : C str Sa W Aa al) (hca : al.length ≤ ca)
    (hal : ∀ x ∈ al, x.size ≤ maxLen) (hfew : (allSups T.cls).length ≤ 100000000) :
    Calls Tryz.prog 63 #[.string c, .pointer (some ⟨ba, 0, none⟩), .pointer (some ⟨bt, 0, none⟩)] W fun e W' => e = .returned (.bool (al.any fun d => d != c && belowB T.cls d c)) ∧ Below W.heap.size W W' := by
  have hbx : Below W.heap.size W (W.alloc (.cells #[.string c] 9)) := (Below.refl _ _).alloc (Nat.le_refl _) _
  have hcc : (W.alloc (.cells #[.string c] 9)).cell? ⟨W.heap.size, 0, none⟩ = some (.string c) := cell_at _ _ _ _ rfl
  have hba1 := (cell_old W (.cells #[.string c] 9) ba 0 (lt_of_cell hba)).trans hba
  have HC := Lib.hid (ContainsFunc_string str Sa rfl (fun d => d != c && belowB T.cls d c) 64 #[.pointer (some ⟨W.heap.size, 0, none⟩), .pointer (some ⟨bt, 0, none⟩)] (enters_of Tryz.func64 (by kernel_rfl) rfl) Aa ca al
    (W.alloc (.cells #[.string c] 9))
    (fun W' x cs hx hb hK => by
      obtain rfl : cs = [.string x] := hK
      exact l21_calls S r T bt W.heap.size c x W' ⟨(hT.below hbx).below hb, (hb.block _ (by have := (Array.getElem?_eq_some_iff.1 hbt).1; simp; omega)).trans ((hbx.block _ (Array.getElem?_eq_some_iff.1 hbt).1).trans hbt), (hb.cell (p := ⟨W.heap.size, 0, none⟩) (by simp)).trans hcc⟩ (hal x hx) hfew) (hC.below hbx) hca)
  generalize (al.any fun d => d != c && belowB T.cls d c) = R at HC ⊢
  clear hT hbt hC hcc hba
  go_enter Tryz.func63, Tryz.ntmps63
  go_wp2_with (go_at_call 33; refine HC.out.mono ?_; rintro e w' ⟨rfl, hb⟩)
  go_ret
  exact ⟨rfl, hbx.trans (hb.mono (by simp))⟩

theorem least_eq (cs : List Cl) (s : List ByteArray) : leastB cs s = (setOf s).filter (fun c => !((setOf s).any fun d => d != c && belowB cs d c)) := by
  unfold leastB
  congr 1
  funext c
  congr 1
  rw [Bool.eq_iff_iff, List.any_eq_true, List.any_eq_true]
  constructor
  · rintro ⟨d, hd, h⟩; exact ⟨d, (set_mem s d).2 hd, h⟩
  · rintro ⟨d, hd, h⟩; exact ⟨d, (set_mem s d).1 hd, h⟩

theorem sortedFunc_nil (bv : Nat) (A : Option Addr) (c : Nat) (w : World) (hbv : w.cell? ⟨bv, 0, none⟩ = some (.slice A 0 c)) :
    Calls Tryz.prog 58 #[.func (.func 80) #[] #[.pointer (some ⟨bv, 0, none⟩)], .func (.func 60) #[] #[]] w fun e w' => ∃ A cap, e = .returned (.slice A 0 cap) ∧ Mine str w.heap.size (fun _ => False) w' (.slice A 0 cap) [] ∧ Below w.heap.size w w' := by
  have HA := Lib.hid (collect_calls (fun _ => False) bv A c [] w hbv (C.nil ..) (by simp))
  clear hbv
  go_enter Tryz.func58, Tryz.ntmps58
  go_wp2_with fail
  refine HA.out.mono ?_
  rintro e w1 ⟨v, rfl, hm, hb⟩
  obtain ⟨A1, cap, rfl, _⟩ := hm.form
  have HN := Lib.hid (fun W => Tryz.slices_SortFunc_none (α := Nat) A1 cap (.func (.func 60) #[] #[]) W)
  have HM := Lib.hid hm
  clear hm
  go_wp2_with (go_at_call 79; refine (HN.out _).mono ?_; rintro e w2 ⟨rfl, rfl⟩)
  go_ret
  exact ⟨A1, cap, rfl, HM.out, hb⟩
theorem clone_nil (A : Option Addr) (c : Nat) (w : World) :
    Calls Tryz.prog 61 #[.slice A 0 c] w fun e w' => ∃ A' c', e = .returned (.slice A' 0 c') ∧ Below w.heap.size w w' := by
  cases A with
  | none => exact (Tryz.slices_Clone_string_nil 0 c w).mono (fun e w' ⟨he, hw⟩ => ⟨none, 0, he, by rw [hw]; exact Below.refl _ _⟩)
  | some a =>
    refine (Tryz.slices_Clone_string_zero a c w).mono ?_
    rintro e w' ⟨v', rfl, ho, _, hb⟩
    obtain ⟨A', c', rfl, _⟩ := own_read (l := []) ho (by simp)
    exact ⟨A', c', rfl, hb⟩
theorem delete_nil (A : Option Addr) (c gf : Nat) (lb : Array Value) (w : World) (eg : ∀ args w, (callFunc gf args).run Tryz.prog w = .ok (.enter gf args) w) :
    Calls Tryz.prog 62 #[.slice A 0 c, .func (.func gf) #[] lb] w fun e w' => e = .returned (.slice A 0 c) ∧ Below w.heap.size w w' := by
  have HI := Lib.hid (IndexFunc_string str (fun _ => False) rfl (fun _ => false) gf lb eg A c [] w (fun W x cs hx => absurd hx List.not_mem_nil) (C.nil ..) (Nat.zero_le _))
  change Hid (Calls _ _ #[.slice A 0 c, _] w fun e w' => e = .returned (.int .i64 (-1)) ∧ _) at HI
  go_enter Tryz.func62, Tryz.ntmps62
  go_wp2_with (go_at_call 54; refine HI.out.mono ?_; rintro e w2 ⟨rfl, hb⟩)
  go_ret
  exact ⟨rfl, hb⟩

set_option maxRecDepth 100000 in
set_option maxHeartbeats 4000000 in
theorem least_calls (S Ss : Nat → Prop) (r : Raw) (T : Thy) (A : Option Addr) (c : Nat) (s : List ByteArray) (w : World) (hT : ThyR S w r T) (hS : ∀ k, S k → k < w.heap.size) (hC : C str Ss w A s) (hl : s.length ≤ 1000000) (hss : ∀ x ∈ s, x.size ≤ maxLen) (hfew : (allSups T.cls).length ≤ 100000000) :
    Calls Tryz.prog 36 #[thyV r T, .slice A s.length c] w fun e w' => ∃ v, e = .returned v ∧ Mine str w.heap.size (fun _ => False) w' v (leastB T.cls s) ∧ Below w.heap.size w w' := by
  have hbt : Below w.heap.size w (w.alloc (.cells (thyC r T) 29)) := (Below.refl _ _).alloc (Nat.le_refl _) _
  have HV := Lib.hid (fun W => values_calls A s.length c W)
  by_cases hne : s = []
  · subst hne
    have HSF := Lib.hid (fun bv W h => sortedFunc_nil bv A c W h)
    have HCN := Lib.hid (fun A c W => clone_nil A c W)
    have HD := Lib.hid (fun A c b1 b2 W => delete_nil A c 63 #[.pointer (some ⟨b1, 0, none⟩), .pointer (some ⟨b2, 0, none⟩)] W (enters_of Tryz.func63 (by kernel_rfl) rfl))
    have HCE := Lib.hid (fun A c W => Tryz.slices_Compact_string_empty A c W)
    have hR : leastB T.cls [] = [] := rfl
    rw [hR]
    have hbv : ((w.alloc (.cells (thyC r T) 29)).alloc (.cells #[.slice A 0 c] 27)).cell? ⟨w.heap.size + 1, 0, none⟩ = some (.slice A 0 c) := cells_at _ _ _ _ 0 (by simp)
    have HBV := Lib.hid hbv
    have HB0 := Lib.hid (hbt.alloc (by simp) (.cells #[.slice A 0 c] 27))
    clear hT hC hbv hbt hR
    unfold thyV
    go_enter Tryz.func36, Tryz.ntmps36
    change Hid (∀ W, Calls _ _ #[.slice A 0 c] W _) at HV
    unfold thyC at HBV HB0 ⊢
    go_wp2_with fail
    refine (HV.out _).mono ?_
    rintro e w' ⟨rfl, rfl⟩
    go_wp2_with fail
    refine (HSF.out _ _ HBV.out).mono ?_
    rintro e w2 ⟨A2, c2, rfl, hm2, hb2⟩
    have HM2 := Lib.hid hm2
    clear hm2
    go_wp2_with fail
    refine (HCE.out _ _ _).mono ?_
    rintro e w3 ⟨rfl, rfl⟩
    go_wp2_with fail
    refine (HCN.out _ _ _).mono ?_
    rintro e w4 ⟨A4, c4, rfl, hb4⟩
    go_wp2_with fail
    refine (HD.out _ _ _ _ _).mono ?_
    rintro e w6 ⟨rfl, hb6⟩
    go_wp2
    go_ret
    have h2 := HB0.out.trans (hb2.mono (by simp; omega))
    have h4 := h2.trans (hb4.mono h2.size)
    exact ⟨_, rfl, ((HM2.out.below hb4).below ((Below.refl _ w4).alloc (Nat.le_refl _) _) |>.below hb6).lower (by simp; omega), (h4.alloc h4.size _).trans (hb6.mono (by have := h4.size; simp; omega))⟩
  · obtain ⟨W1, hW1⟩ : ∃ W1, (w.alloc (.cells (thyC r T) 29)).alloc (.cells #[.slice A s.length c] 27) = W1 := ⟨_, rfl⟩
    have hs1 : W1.heap.size = w.heap.size + 2 := by rw [← hW1]; simp
    have hb1 : Below w.heap.size w W1 := by rw [← hW1]; exact hbt.alloc (by simp) _
    have hbv : W1.cell? ⟨w.heap.size + 1, 0, none⟩ = some (.slice A s.length c) := by rw [← hW1]; exact cells_at _ _ _ _ 0 (by simp)
    have hth : W1.heap[w.heap.size]? = some (.cells (thyC r T) 29 (0, 0)) := by rw [← hW1]; exact (Below.heap_alloc _ _ _ (by simp)).trans (World.alloc_heap_new w _)
    have HS := Lib.hid (sortedFunc_calls Ss (w.heap.size + 1) A c s W1 hbv (hC.below hb1) hl hne)
    have hT1 := hT.below hb1
    have HT := Lib.hid hT1
    have HTH := Lib.hid hth
    have HB1 := Lib.hid hb1
    have HW := Lib.hid hW1
    generalize hR : leastB T.cls s = R
    have HR := Lib.hid hR
    clear hbv hth hb1 hbt hT hC hT1 hW1 hR
    unfold thyV thyC
    go_enter Tryz.func36, Tryz.ntmps36
    go_wp2_with fail
    refine (HV.out _).mono ?_
    rintro e w' ⟨rfl, hw'⟩
    have hw2 : w' = W1 := by rw [← hw', ← HW.out]; rfl
    subst hw2
    clear hw'
    go_wp2_with fail
    refine HS.out.mono ?_
    rintro e w2 ⟨g, o, cap, rfl, hm2, hb2⟩
    have HC2 := Lib.hid (compact_mine hm2 (by rw [(sortS_perm s).length_eq]; exact hl) (sortS_perm s) (sortS_asc s))
    have hg : w'.heap.size ≤ g := (hm2.base_le (k := g) (by simp [Value.ownBlock])).1
    have HB2 := Lib.hid hb2
    clear hm2 hb2
    go_wp2_with fail
    refine HC2.out.mono ?_
    rintro e w3 ⟨rfl, hm3, hc3⟩
    have hne3 : setOf s ≠ [] := fun e => by
      obtain ⟨x, hx⟩ := List.exists_mem_of_ne_nil _ hne
      have := (set_mem s x).2 hx
      rw [e] at this
      exact absurd this List.not_mem_nil
    have hl3 : (setOf s).length ≤ 1000000 := Nat.le_trans (nodup_len (asc_nodup (set_asc s)) (fun x hx => (set_mem s x).1 hx)) hl
    have HCL := Lib.hid (clone_calls hm3.read.2.2 hl3 (c := cap))
    have HM3 := Lib.hid hm3
    have HC3 := Lib.hid hc3
    have hcap : 0 < cap := by have := hm3.read.2.1; have := List.length_pos_iff.2 hne3; omega
    have hgl : g < w3.heap.size := (hm3.base_le (k := g) (by simp [Value.ownBlock])).2
    clear hm3 hc3
    go_wp2_with fail
    refine HCL.out.mono ?_
    rintro e w4 ⟨Aa, ca, rfl, hca, hC4, hb4⟩
    -- the world in which the search begins
    obtain ⟨W5, hW5⟩ : ∃ W5, w4.alloc (.cells #[.slice Aa (setOf s).length ca] 27) = W5 := ⟨_, rfl⟩
    have hs5 : W5.heap.size = w4.heap.size + 1 := by rw [← hW5]; simp
    have hc5 : Chg (fun _ => False) w4 W5 := by rw [← hW5]; exact Chg.alloc _ _ _
    have hba : W5.cell? ⟨w4.heap.size, 0, none⟩ = some (.slice Aa (setOf s).length ca) := by rw [← hW5]; exact cells_at _ _ _ _ 0 rfl
    have hc35 : Chg (fun _ => False) w3 W5 := (Chg.of_fresh hb4).trans hc5
    have hc15 : Chg (fun k => k = g) w' W5 := ((Chg.of_fresh (T := fun k => k = g) HB2.out).trans HC3.out).trans (hc35.mono (fun _ h => h.elim))
    have hm5 := HM3.out.chg hc35 (fun _ h => h.elim) (fun _ _ e => e)
    have hT5 := HT.out.chg hc15 (fun k hs hk e => by have := hS k hs; omega)
    have hth5 := hc15.obj HTH.out (fun e => by omega)
    have hC5 := hC4.bound.chg hc5 (fun _ _ _ e => e)
    have h34 := hb4.size
    have hfil := least_eq T.cls s
    have HD := Lib.hid (DeleteFunc_calls (fun c => (setOf s).any fun d => d != c && belowB T.cls d c) 63 #[.pointer (some ⟨w4.heap.size, 0, none⟩), .pointer (some ⟨w.heap.size, 0, none⟩)] (enters_of Tryz.func63 (by kernel_rfl) rfl) w'.heap.size g o cap (fun _ => False) (setOf s) W5 hm5 hcap
      (fun W x hx hc => l2_calls S (fun k => w3.heap.size ≤ k ∧ k < w4.heap.size) r T w.heap.size w4.heap.size Aa ca (setOf s) x W (hT5.chg hc (fun k hs hk e => by have := hS k hs; omega)) (hc.obj hth5 (fun e => by omega)) (hc.cell hba (fun e => by simp only at e; omega)) (hC5.chg hc (fun k hs hk e => by omega)) hca
        (fun y hy => hss y ((set_mem s y).1 hy)) hfew))
    rw [← hfil, HR.out] at HD
    have HB4 := Lib.hid hb4
    have HC35 := Lib.hid hc35
    have HS5 := Lib.hid hs5
    clear hb4 hC4 hba hc35 hc15 hm5 hT5 hth5 hC5 hfil hc5
    go_wp2_with fail
    refine HD.out.mono ?_
    rintro e w6 ⟨rfl, hm6, hc6⟩
    have HM6 := Lib.hid hm6
    have HC6 := Lib.hid hc6
    clear hm6 hc6 hW5
    go_wp2
    go_ret
    refine ⟨_, rfl, HM6.out.lower (by omega), ?_⟩
    have h12 := HB2.out
    have h13 : Below w.heap.size w w3 := HB1.out.trans ((h12.mono (by omega)).trans (HC3.out.below (by have := h12.size; omega) (fun k hk => by omega)))
    exact h13.trans ((HC35.out.below (by have := h13.size; omega) (fun _ h => h.elim)).trans (HC6.out.below (by have := h13.size; have := HC35.out.size; omega) (fun k hk => by omega)))
end Go.Proofs.YthfomoigaoffgaaGreat.So
