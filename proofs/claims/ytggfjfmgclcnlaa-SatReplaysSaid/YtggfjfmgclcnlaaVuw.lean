/- Walks of the reference: needed, Trim; EqualFunc of clauses, Equal of steps; the law SatReplays. -/
import Derived.Test.YtggfjfmgclcnlaaVos
import Derived.Deep.OwnRows
import Derived.Deep.RegionHeld3
import Derived.Test.YtggfjfmgclcnlaaVm
namespace Go.Proofs.Ytggfjfmgclcnlaa.Zb
open Go Go.RowKit Go.Shelf Go.Proofs.Ytggfjfmgclcnlaa.K Go.Proofs.Ytggfjfmgclcnlaa.G Go.Proofs.Ytggfjfmgclcnlaa.Z
set_option linter.unusedSimpArgs false
set_option linter.unusedVariables false

/-- the first empty clause from place k on -/
def fstI (all : List Cls) (k : Nat) : Int := match firstE (all.drop k) with | none => -1 | some j => ((k + j : Nat) : Int)
theorem fstI_end (all : List Cls) : fstI all all.length = -1 := by unfold fstI; rw [List.drop_length]; rfl
theorem fstI_step {all : List Cls} {k : Nat} (h : k < all.length) : fstI all k = if (all[k]'h).isEmpty then (k : Int) else fstI all (k + 1) := by
  unfold fstI firstE
  rw [List.drop_eq_getElem_cons h, List.findIdx?_cons]
  cases hb : (all[k]'h).isEmpty with
  | true => simp
  | false =>
    rw [if_neg (by decide), if_neg (by decide)]
    cases (all.drop (k + 1)).findIdx? (fun c => c.isEmpty) with
    | none => rfl
    | some j =>
      show ((k + (j + 1) : Nat) : Int) = ((k + 1 + j : Nat) : Int)
      congr 1
      omega
theorem fstI_zero (all : List Cls) : fstI all 0 = match firstE all with | none => -1 | some k => (k : Int) := by
  unfold fstI
  rw [List.drop_zero]
  cases firstE all with
  | none => rfl
  | some k => simp
def RNeedEnd (w : World) (R : List Bool × Int) (e : Ending) (w' : World) : Prop :=
  (if R.2 = 0 then ∃ g, e = .returned (.tuple #[.slice (some ⟨g, 0, none⟩) R.1.length R.1.length, .bool true, .int .i64 0]) ∧ w.heap.size ≤ g ∧ w'.rowIs g 4 R.1.length (fun j => .bool (R.1.getD j false)) else e = .returned (.tuple #[.slice none 0 0, .bool false, .int .i64 R.2])) ∧ Below w.heap.size w w'

set_option maxRecDepth 100000 in
set_option maxHeartbeats 4000000 in
theorem rneeded_calls (Sl Sp : Nat → Prop) (Al Ap : Option Addr) (cl cp : Nat) (l : List Cls) (p : List Stp) (w : World) (hl : C kL Sl w Al l) (hcl : l.length ≤ cl) (hp : C kS Sp w Ap p) (hcp : p.length ≤ cp) (hll : l.length ≤ 1000000) (hlc : 500 < l.length ∨ ∀ c ∈ l, c.length ≤ 1000000000) (hpi : ∀ s ∈ p, -9223372036854775808 ≤ s.2.2 ∧ s.2.2 ≤ 9223372036854775807) :
    Calls Try.prog 43 #[.slice Al l.length cl, .slice Ap p.length cp] w (RNeedEnd w (needB l p)) := by
  have HR := Lib.hid (rreplay_calls2 Sl Sp Al Ap cl cp l p w hl hcl hp hcp hll hlc hpi)
  have HL := Lib.hid hl
  have HP := Lib.hid hp
  have hinv0 := replB_inv (l := l) (p := p)
  obtain ⟨⟨M, k0, e0⟩, hM⟩ : ∃ q, replB l p = q := ⟨_, rfl⟩
  unfold needB
  rw [hM] at HR hinv0 ⊢
  dsimp only at hinv0 ⊢
  clear hl hp hpi hlc hM
  by_cases hE : e0 = 0
  · subst hE
    obtain ⟨_, hp20, all, hrep, _, happ⟩ := hinv0 rfl
    have hlen := hrep.len
    have HRep := Lib.hid hrep
    have hMl : M.length = p.length := by have := congrArg List.length happ; rw [List.length_append] at this; omega
    rw [if_neg (fun e => e rfl), happ]
    have Happ := Lib.hid happ
    obtain ⟨F, hF⟩ : ∃ F, firstE all = F := ⟨_, rfl⟩
    rw [hF]
    have HFe := Lib.hid hF
    obtain ⟨n, hn⟩ : ∃ n, l.length + p.length = n := ⟨_, rfl⟩
    rw [hn]
    have Hn := Lib.hid hn
    have hnm : n ≤ 2000000 := by omega
    have Hal : Hid (all.length = n) := Lib.hid (by omega)
    have hlM : l.length + M.length ≤ 100000000 := by omega
    have hlm : l.length ≤ 9223372036854775807 := by omega
    have hpm : p.length ≤ 9223372036854775807 := by omega
    clear hinv0 hrep happ hMl hF hn
    go_enter Try.func43, Try.ntmps43
    go_wp2_with fail
    refine HR.out.mono ?_
    rintro e w1 ⟨A1, c1, rfl, hc1, hC1, hb1⟩
    have HC1 := Lib.hid hC1
    have HB1 := Lib.hid hb1
    clear HR hC1 hb1
    have hwa : Below w1.heap.size w1 (w1.alloc (.cells #[] 44)) := (Below.refl _ _).alloc (Nat.le_refl _) _
    obtain ⟨A2, n2, c2, w2, hrun2, hn2, hm2, hg2, ho2⟩ := append_own (c := cl) (S := Sl) Try.underlying22 infoL rfl (by decide) (by decide) (mine_empty kL (S := Sl) (base := w1.heap.size) (g := w1.heap.size) (w := w1.alloc (.cells #[] 44)) (Nat.le_refl _) (by simp)) ((HL.out.below HB1.out).bound.below hwa) (fun k hk => ⟨hk.1, fun e => by simp [Value.ownBlock] at e; have := hk.2; omega⟩) (by simp; omega) (by simp)
    rw [List.nil_append] at hn2 hm2
    subst hn2
    have hb2 : Below w1.heap.size w1 w2 := hwa.trans ((Chg.grown hg2 (fun k e => .inl e) (T := fun k => (Value.slice (some ⟨w1.heap.size, 0, none⟩) 0 0).ownBlock = some k)).below (by simp) (fun k e => by simp [Value.ownBlock] at e; omega))
    obtain ⟨A3, n3, c3, w3, hrun, hn3, hm3, hg3, ho3⟩ := append_own (c := c1) (S := Any) (S' := fun k => k < w1.heap.size) Try.underlying22 infoL rfl (by decide) (by decide) (hm2.mono (fun _ _ => trivial)) (((HC1.out.bound).mono (fun k hk => hk.2)).below hb2) (fun k hk => ⟨trivial, fun e => by have := (hm2.base_le e).1; omega⟩) hlM hb2.size
    have hB3 : Below w.heap.size w w3 := (HB1.out.trans (hb2.mono HB1.out.size)).trans ((Chg.grown hg3 (fun k e => .inl e) (T := fun k => (Value.slice A2 l.length c2).ownBlock = some k)).below (Nat.le_trans HB1.out.size hb2.size) (fun k e => Nat.le_trans HB1.out.size (hm2.base_le e).1))
    rw [Happ.out, Hal.out] at hn3
    rw [Happ.out] at hm3
    subst n3
    have HB3 := Lib.hid hB3
    have HRun2 := Lib.hid hrun2
    have HRun := Lib.hid hrun
    have HA3 : Hid (C kL Any w3 A3 all) := Lib.hid (hm3.read.2.2.mono (fun _ _ => trivial))
    clear hwa hm2 hb2 hrun2 hrun hm3 hg2 hg3 ho2 ho3 hB3 HB1 HC1 hlen
    have hmk := run_make_row' (P := Try.prog) 28 4 (.bool false) 1 Try.underlying28 infoB rfl .i64 .i64 n (by omega) (by omega) w3
    have hrow := World.rowIs_made w3 (.bool false) n 4
    have hb5 : Below w.heap.size w (w3.alloc (.cells (madeCells #[.bool false] n) 4)) := HB3.out.alloc HB3.out.size _
    have hA5 := HA3.out.below ((Below.refl w3.heap.size w3).alloc (Nat.le_refl _) (.cells (madeCells #[.bool false] n) 4))
    generalize w3.alloc (.cells (madeCells #[.bool false] n) 4) = w5 at hmk hrow hb5 hA5
    have hg0 := HB3.out.size
    generalize w3.heap.size = g at hmk hrow hg0
    have hn1 : IntKind.i64.wrap ((n : Int) - 1) = (n : Int) - 1 := by rw [IntKind.wrap_i64]; omega
    have HRow := Lib.hid hrow
    have HB5 := Lib.hid hb5
    have HA5 := Lib.hid hA5
    have HF0 : Hid (fstI all n = -1) := Lib.hid (by rw [← Hal.out]; exact fstI_end all)
    clear hrow hb5 hA5 HB3 HA3
    go_wp2_with (first | (at_builtin; refine G.wpList_append_run rfl _ _ _ rfl _ _ rfl rfl _ _ HRun2.out ?_) | (at_builtin; refine G.wpList_append_run rfl _ _ _ rfl _ _ rfl rfl _ _ HRun.out ?_))
    clear hlM
    go_loopg [12, 13] n (fun gg v12 v13 wr => ∃ k : Nat, v12 = .int .i64 (fstI all k) ∧ v13 = .int .i64 ((k : Int) - 1) ∧ k ≤ n ∧ k ≤ gg ∧ w5 = wr)
    case atStart => exact ⟨n, by rw [HF0.out], rfl, Nat.le_refl _, Nat.le_refl _, rfl⟩
    case round =>
      clear HF0
      obtain ⟨k, rfl, rfl, hk, hgg, rfl⟩ := hrel
      by_cases hk0 : k = 0
      · have Hk0 := Lib.hid hk0
        have hneg : ¬ (k : Int) - 1 ≥ 0 := by omega
        have hf0 := fstI_zero all
        rw [← hk0, HFe.out] at hf0
        generalize fstI all k = fz at hf0 ⊢
        have Hfz := Lib.hid hf0
        clear hf0 hk0
        cases F with
        | none =>
          obtain rfl : fz = -1 := Hfz.out
          clear Hfz
          go_wp2
          go_ret3
          exact ⟨rfl, HB5.out⟩
        | some f =>
          obtain rfl : fz = (f : Int) := Hfz.out
          clear Hfz
          have hfl := first_lt HFe.out
          have hfn' : f < n := by rw [← Hal.out]; exact hfl
          have hfi : (f : Int) < (n : Int) := by omega
          have hff : (0 : Int) ≤ (f : Int) := by omega
          have hf0 : ¬ (f : Int) < 0 := by omega
          have hr6 := row_set (need := List.replicate n false) (i := f) (HRow.out.congr (fun i hi => by simp [List.getD_eq_getElem?_getD, List.getElem?_replicate, hi])) (by simp) hfn'
          have hc5 := HRow.out.cell hfn'
          have hz5 := HRow.out.frozen f
          have hb6 : Below w.heap.size w (w5.setCell ⟨g, f, none⟩ (.bool true)) := HB5.out.setCell hg0 _
          have HR6 := Lib.hid hr6
          have HB6 := Lib.hid hb6
          have Hfn := Lib.hid hfn'
          clear hr6 hb6 hfl hfn' HRow HB5 HA5
          go_upto_region 15 with fail
          clear hc5 hz5 hfi hff hf0 hneg
          go_wp2
          go_loopg [14] (f + 1) (fun gg v wr => ∃ (i : Int) (need : List Bool), v = .int .i64 i ∧ -1 ≤ i ∧ i < (n : Int) ∧ (i + 1 - (l.length : Int)).toNat ≤ gg ∧ Hid (need.length = n) ∧ Hid (markB p l.length (i + 1 - (l.length : Int)).toNat need = markB p l.length (f + 1 - l.length) ((List.replicate n false).set f true)) ∧ Hid (wr.rowIs g 4 n (fun j => .bool (need.getD j false))) ∧ Hid (Below w.heap.size w wr))
          case atStart => exact ⟨f, _, rfl, by omega, by have := Hfn.out; omega, by omega, Lib.hid (by simp), Lib.hid (by rw [show ((f : Int) + 1 - (l.length : Int)).toNat = f + 1 - l.length by omega]), HR6, HB6⟩
          case round =>
            obtain ⟨i, need, rfl, hi1, hi2, hgg, HNl, HMk, HRw, HBw⟩ := hrel
            have hnn := Hn.out
            by_cases hge : (l.length : Int) ≤ i
            · obtain ⟨m, rfl⟩ : ∃ m : Nat, i = (m : Int) := ⟨i.toNat, by omega⟩
              have hml : l.length ≤ m := by omega
              have hmn : m < n := by omega
              have hj : m - l.length < p.length := by omega
              have hsub : IntKind.i64.wrap ((m : Int) - (l.length : Int)) = ((m - l.length : Nat) : Int) := by rw [IntKind.wrap_i64]; omega
              have hdec : IntKind.i64.wrap ((m : Int) - 1) = (m : Int) - 1 := by rw [IntKind.wrap_i64]; omega
              obtain ⟨a, b, st, es, ha, hb⟩ := rep_step HRep.out (m - l.length) hj
              obtain ⟨bp, op, rfl, hbp, p0, p1, p2⟩ := step_at (HP.out.below HBw.out) (m - l.length) hj
              rw [es] at p0 p1 p2
              dsimp only at p0 p1 p2
              have hmk := HMk.out
              rw [show ((m : Int) + 1 - (l.length : Int)).toNat = (m - l.length) + 1 by omega, markB, List.getElem?_eq_getElem hj, es, show l.length + (m - l.length) = m by omega] at hmk
              simp only [Int.toNat_natCast] at hmk
              have q := HRw.out.cell hmn
              have hrow := HRw.out.alloc (.cells #[.int .i64 (a : Int), .int .i64 (b : Int), .int .i64 st] 67)
              have hbx : Below w.heap.size w (wr.alloc (.cells #[.int .i64 (a : Int), .int .i64 (b : Int), .int .i64 st] 67)) := HBw.out.alloc HBw.out.size _
              have hne : wr.heap.size ≠ g := Nat.ne_of_gt HRw.out.lt
              have hne2 : g ≠ wr.heap.size := fun e => hne e.symm
              have hnext : ((m : Int) - 1 + 1 - (l.length : Int)).toNat = m - l.length := by omega
              have hnj : ((m - l.length : Nat) : Int) < (p.length : Int) := by omega
              have hnj0 : (0 : Int) ≤ ((m - l.length : Nat) : Int) := by omega
              have hmi : (m : Int) < (n : Int) := by omega
              have hmi0 : (0 : Int) ≤ (m : Int) := by omega
              have hge2 : (m : Int) ≥ (l.length : Int) := hge
              generalize hjj : m - l.length = j at *
              cases hd : need.getD m false with
              | false =>
                rw [hd] at hmk q
                have HM2 : Hid (markB p l.length ((m : Int) - 1 + 1 - (l.length : Int)).toNat need = markB p l.length (f + 1 - l.length) ((List.replicate n false).set f true)) := Lib.hid (by rw [hnext]; simpa using hmk)
                have Hge := Lib.hid hge
                clear hmk hrow hbx hd HMk es ha hb hjj hnn hml hmn
                go_wp2
                go_roundg ((m : Int) - l.length).toNat
                case measure => omega
                case rel => exact ⟨(m : Int) - 1, need, by go_num, by omega, by omega, by omega, HNl, HM2, HRw, HBw⟩
              | true =>
                rw [hd] at hmk q
                have HM2 : Hid (markB p l.length ((m : Int) - 1 + 1 - (l.length : Int)).toNat ((need.set a true).set b true) = markB p l.length (f + 1 - l.length) ((List.replicate n false).set f true)) := Lib.hid (by rw [hnext]; simpa using hmk)
                have Hge := Lib.hid hge
                have han : a < n := by omega
                have hbn : b < n := by omega
                have hai : (a : Int) < (n : Int) := by omega
                have hbi : (b : Int) < (n : Int) := by omega
                have hai0 : (0 : Int) ≤ (a : Int) := by omega
                have hbi0 : (0 : Int) ≤ (b : Int) := by omega
                have HNl2 : Hid (((need.set a true).set b true).length = n) := Lib.hid (by simp [HNl.out])
                have c0 : (wr.alloc (.cells #[.int .i64 (a : Int), .int .i64 (b : Int), .int .i64 st] 67)).cell? ⟨wr.heap.size, 0, none⟩ = some (.int .i64 (a : Int)) := by simp only [World.cell?, alloc_new]; rfl
                have c1 : (wr.alloc (.cells #[.int .i64 (a : Int), .int .i64 (b : Int), .int .i64 st] 67)).cell? ⟨wr.heap.size, 1, none⟩ = some (.int .i64 (b : Int)) := by simp only [World.cell?, alloc_new]; rfl
                have ca := hrow.cell han
                have fa := hrow.frozen a
                have hrow2 := row_set hrow HNl.out han
                have cb := hrow2.cell hbn
                have fb := hrow2.frozen b
                have c12 : ((wr.alloc (.cells #[.int .i64 (a : Int), .int .i64 (b : Int), .int .i64 st] 67)).setCell ⟨g, a, none⟩ (.bool true)).cell? ⟨wr.heap.size, 1, none⟩ = some (.int .i64 (b : Int)) := (Chg.setCell (T := fun k => k = g) (p := ⟨g, a, none⟩) rfl (.bool true)).cell c1 hne
                have HAB := Lib.hid (row_set hrow2 (by rw [List.length_set]; exact HNl.out) hbn)
                have BAB := Lib.hid ((hbx.setCell (p := ⟨g, a, none⟩) hg0 (.bool true)).setCell (p := ⟨g, b, none⟩) hg0 (.bool true))
                clear hmk hbx hd HMk HRw HBw es ha hb hjj hnn hml hmn hrow hrow2
                go_upto_region 20 with fail
                generalize hz : wr.alloc (.cells #[.int .i64 (a : Int), .int .i64 (b : Int), .int .i64 st] 67) = wz at c0 c1 ca cb fa fb c12 HAB BAB ⊢
                clear hz p0 p1 p2 q
                go_upto_region 21 with fail
                generalize hz : wz.setCell ⟨g, a, none⟩ (.bool true) = wy at cb fb c12 HAB BAB ⊢
                clear hz ca fa c0 c1
                go_wp2
                go_roundg ((m : Int) - l.length).toNat
                case measure => omega
                case rel => exact ⟨(m : Int) - 1, (need.set a true).set b true, by go_num, by omega, by omega, by omega, HNl2, HM2, HAB, BAB⟩
            · have hmk := HMk.out
              rw [show (i + 1 - (l.length : Int)).toNat = 0 by omega, markB] at hmk
              have hge2 : ¬ i ≥ (l.length : Int) := hge
              have hge3 : i < (l.length : Int) := by omega
              have Hmk := Lib.hid hmk
              clear hmk HMk hnn hge
              go_wp2
              go_ret3
              refine ⟨?_, HBw.out⟩
              rw [if_pos rfl]
              dsimp only
              rw [← Hmk.out, HNl.out]
              exact ⟨g, rfl, hg0, HRw.out⟩
      · obtain ⟨k', rfl⟩ : ∃ k', k = k' + 1 := ⟨k - 1, by omega⟩
        have e1 : ((k' + 1 : Nat) : Int) - 1 = (k' : Int) := by omega
        rw [e1]
        have hkl : k' < all.length := by rw [Hal.out]; omega
        have hge : (k' : Int) ≥ 0 := by omega
        have hge0 : (0 : Int) ≤ (k' : Int) := by omega
        have hki : (k' : Int) < (n : Int) := by omega
        have hdec : IntKind.i64.wrap ((k' : Int) - 1) = (k' : Int) - 1 := by rw [IntKind.wrap_i64]; omega
        obtain ⟨b1, o1, A4, c4, rfl, hb1, q0, hcc, hC4⟩ := cls_at HA5.out k' hkl
        have hst := fstI_step hkl
        have hel : (all[k']'hkl).isEmpty = decide ((all[k']'hkl).length = 0) := by cases all[k']'hkl <;> rfl
        rw [hel] at hst
        generalize (all[k']'hkl).length = m at q0 hcc hst
        generalize fstI all (k' + 1) = fz at hst ⊢
        clear hC4 hel e1
        by_cases hm0 : m = 0
        · rw [decide_eq_true hm0, if_pos rfl] at hst
          have gm : (((m : Nat) : Int) == 0) = true := by rw [hm0]; rfl
          have Hst := Lib.hid hst
          clear hst hm0
          go_wp2
          go_roundg k'
          case measure => omega
          case rel => exact ⟨k', by rw [Hst.out], rfl, by omega, Nat.le_refl _, rfl⟩
        · rw [decide_eq_false hm0, if_neg (by decide)] at hst
          have gm : (((m : Nat) : Int) == 0) = false := beq_eq_false_iff_ne.2 (by omega)
          have Hst := Lib.hid hst
          clear hst hm0
          go_wp2
          go_roundg k'
          case measure => omega
          case rel => exact ⟨k', by rw [Hst.out], rfl, by omega, Nat.le_refl _, rfl⟩
  · rw [if_pos hE]
    have gE : (e0 != 0) = true := bne_iff_ne.2 hE
    have HE := Lib.hid hE
    clear hE hinv0
    go_enter Try.func43, Try.ntmps43
    go_wp2_with fail
    refine HR.out.mono ?_
    rintro e w1 ⟨A1, c1, rfl, hc1, hC1, hb1⟩
    have HB1 := Lib.hid hb1
    clear HR hC1 hb1
    go_wp2
    go_ret3
    exact ⟨by rw [if_neg HE.out]; rfl, HB1.out⟩
end Go.Proofs.Ytggfjfmgclcnlaa.Zb
namespace Go.Proofs.Ytggfjfmgclcnlaa.Zb
open Go Go.RowKit Go.Shelf Go.Proofs.Ytggfjfmgclcnlaa.K Go.Proofs.Ytggfjfmgclcnlaa.G Go.Proofs.Ytggfjfmgclcnlaa.Z
set_option linter.unusedSimpArgs false
set_option linter.unusedVariables false

/-- a number of a row of one's own is turned -/
theorem mine_set {base : Nat} {W : World} {A : Option Addr} {m c : Nat} {ix : List Int} (h : Mine kI base NoB W (.slice A m c) ix) {i : Nat} (hi : i < ix.length) (v : Int) :
    ∃ b o, A = some ⟨b, o, none⟩ ∧ base ≤ b ∧ b < W.heap.size ∧ W.frozen? ⟨b, o + i, none⟩ = false ∧ (∀ j, j < ix.length → W.cell? ⟨b, o + j, none⟩ = some (.int .i64 (ix.getD j 0))) ∧ Mine kI base NoB (W.setCell ⟨b, o + i, none⟩ (.int .i64 v)) (.slice A m c) (ix.set i v) := by
  obtain ⟨A', cap, e, h1, h2, h3⟩ := h
  injection e with e1 e2 e3
  subst e1; subst e2; subst e3
  rcases h3 with ⟨rfl, rfl⟩ | ⟨g, o, rfl, hg, hl, hcell, hcs⟩
  · omega
  · have hz : kI.sz = 1 := rfl
    have hrow : ∀ j, j < ix.length → W.cell? ⟨g, o + j, none⟩ = some (.int .i64 (ix.getD j 0)) := fun j hj => by
      obtain ⟨cs, hK, hc⟩ := hcs j _ (List.getElem?_eq_getElem hj)
      have hK' : cs = [.int .i64 (ix[j]'hj)] := hK
      subst hK'
      have := hc 0 _ rfl
      rw [hz, Nat.mul_one, Nat.add_zero] at this
      rw [this, List.getD_eq_getElem?_getD, List.getElem?_eq_getElem hj]
      rfl
    have hsame : (W.setCell ⟨g, o + i, none⟩ (.int .i64 v)).cell? ⟨g, o + i, none⟩ = some (.int .i64 v) := World.cell?_setCell_same' _ _ _ (by rw [hrow i hi]; rfl)
    have hoth : ∀ j, j ≠ i → (W.setCell ⟨g, o + i, none⟩ (.int .i64 v)).cell? ⟨g, o + j, none⟩ = W.cell? ⟨g, o + j, none⟩ := fun j hj => World.cell?_setCell_other _ _ _ _ (by intro e'; simp only [Addr.mk.injEq] at e'; omega)
    refine ⟨g, o, rfl, hg, hl, (hcell i (by rw [hz]; omega)).2, hrow, some ⟨g, o, none⟩, c, by rw [List.length_set], by rw [List.length_set]; exact h1, h2, .inr ⟨g, o, rfl, hg, by simpa using hl, fun j hj => ⟨?_, ?_⟩, scalar_cells fun j x hj => ?_⟩⟩
    · by_cases e : j = i
      · subst e; rw [hsame]; rfl
      · rw [hoth j e]; exact (hcell j hj).1
    · rw [World.frozen?_setCell]; exact (hcell j hj).2
    · have hjl : j < ix.length := by have := (List.getElem?_eq_some_iff.1 hj).1; rwa [List.length_set] at this
      by_cases e : j = i
      · subst e
        rw [List.getElem?_set_self hjl] at hj
        cases hj
        exact hsame
      · rw [List.getElem?_set_ne (Ne.symm e)] at hj
        rw [hoth j e, hrow j hjl, List.getD_eq_getElem?_getD, hj]
        rfl
/-- the state of the loop: the new indices, the steps so far, what is needed (block gn) -/
structure TrR (w : World) (gn n : Nat) (v9 v10 : Value) (ix : List Int) (out : List Stp) (need : List Bool) (W : World) : Prop where
  at_ : Mine kI w.heap.size NoB W v9 ix
  out : Mine kS w.heap.size NoB W v10 out
  nrow : W.rowIs gn 4 n (fun j => .bool (need.getD j false))
  ne9 : ∀ k, v9.ownBlock = some k → k ≠ gn ∧ v10.ownBlock ≠ some k
  ne10 : ∀ k, v10.ownBlock = some k → k ≠ gn
  below : Below w.heap.size w W
theorem TrR.step {w : World} {gn n : Nat} {v9 v10 : Value} {ix : List Int} {out : List Stp} {need : List Bool} {W W' : World} (h : TrR w gn n v9 v10 ix out need W) (hb : Below W.heap.size W W') : TrR w gn n v9 v10 ix out need W' :=
  ⟨h.at_.below hb, h.out.below hb, h.nrow.of_block (hb.block _ h.nrow.lt), h.ne9, h.ne10, h.below.trans (hb.mono h.below.size)⟩
theorem TrR.push {w : World} {gn n m c : Nat} {A : Option Addr} {v10 : Value} {ix : List Int} {out : List Stp} {need : List Bool} {W : World} (h : TrR w gn n (.slice A m c) v10 ix out need W) (hn : ix.length = m) (hs : m ≤ 10000000) (x : Int) :
    ∃ A' c' w1, (Builtin.append_ #[44, 44] 44 #[.slice A m c, .slice (some ⟨W.heap.size, 0, none⟩) 1 1]).run Try.prog (W.alloc (.cells #[.int .i64 x] 3)) = .ok (.slice A' (m + 1) c') w1 ∧ TrR w gn n (.slice A' (m + 1) c') v10 (ix ++ [x]) out need w1 := by
  have hwa : Below W.heap.size W (W.alloc (.cells #[.int .i64 x] 3)) := (Below.refl _ _).alloc (Nat.le_refl _) _
  obtain ⟨A', n', c', w1, hrun, hn', hm, hg, ho⟩ := append_own (c := 1) (S := Any) (S' := fun k => k = W.heap.size) Try.underlying44 infoI rfl (by decide) (by decide) ((h.at_.below hwa).mono (fun _ h => h.elim)) (one_int (alloc_new W (.cells #[.int .i64 x] 3)) rfl)
    (fun k hk => ⟨trivial, fun e => by have := (h.at_.base_le e).2; omega⟩) (by simp; omega) (Nat.le_trans h.below.size hwa.size)
  rw [List.length_append, hn] at hn'
  have hn2 : n' = m + 1 := hn'
  subst hn2
  have hc : Chg (fun k => (Value.slice A m c).ownBlock = some k) W w1 := (Chg.of_fresh hwa).trans (Chg.grown hg (fun k e => .inl e))
  have hws := hwa.size
  refine ⟨A', c', w1, hrun, mine_nob (d := kI) hm, h.out.chg hc (fun _ h => h.elim) (fun k e e2 => (h.ne9 k e2).2 e), h.nrow.of_block (hc.block _ h.nrow.lt (fun e => (h.ne9 _ e).1 rfl)), fun k e => ?_, h.ne10, h.below.trans (hc.below h.below.size (fun k e => (h.at_.base_le e).1))⟩
  rcases ho k e with h1 | h1
  · exact h.ne9 k h1
  · have := h.nrow.lt
    exact ⟨by omega, fun e2 => by have := (h.out.base_le e2).2; omega⟩
theorem TrR.pushS {w : World} {gn n m c : Nat} {A : Option Addr} {v9 : Value} {ix : List Int} {out : List Stp} {need : List Bool} {W W' : World} (h : TrR w gn n v9 (.slice A m c) ix out need W) (hW : Below W.heap.size W W') (hn : out.length = m) (hs : m ≤ 10000000) (x y z : Int) :
    ∃ A' c' w1, (Builtin.append_ #[41, 41] 41 #[.slice A m c, .slice (some ⟨W'.heap.size, 0, none⟩) 1 1]).run Try.prog (W'.alloc (.cells #[.int .i64 x, .int .i64 y, .int .i64 z] 67)) = .ok (.slice A' (m + 1) c') w1 ∧ TrR w gn n v9 (.slice A' (m + 1) c') ix (out ++ [(x, y, z)]) need w1 ∧ Chg (fun k => (Value.slice A m c).ownBlock = some k) W w1 := by
  have hwb : Below W'.heap.size W' (W'.alloc (.cells #[.int .i64 x, .int .i64 y, .int .i64 z] 67)) := (Below.refl _ _).alloc (Nat.le_refl _) _
  have hwa := hW.trans (hwb.mono hW.size)
  obtain ⟨A', n', c', w1, hrun, hn', hm, hg, ho⟩ := append_own (c := 1) (S := Any) (S' := fun k => k = W'.heap.size) (ys := [(x, y, z)]) (A := some ⟨W'.heap.size, 0, none⟩) Try.underlying41 infoSr rfl (by decide) (by decide) ((h.out.below hwa).mono (fun _ h => h.elim)) (one_stp (alloc_new W' _) rfl)
    (fun k hk => ⟨trivial, fun e => by have := (h.out.base_le e).2; have := hW.size; omega⟩) (by simp; omega) (Nat.le_trans h.below.size hwa.size)
  rw [List.length_append, hn] at hn'
  have hn2 : n' = m + 1 := hn'
  subst hn2
  have hc : Chg (fun k => (Value.slice A m c).ownBlock = some k) W w1 := (Chg.of_fresh hwa).trans (Chg.grown hg (fun k e => .inl e))
  have hws := hwa.size
  refine ⟨A', c', w1, hrun, ⟨h.at_.chg hc (fun _ h => h.elim) (fun k e e2 => (h.ne9 k e).2 e2), mine_stp hm, h.nrow.of_block (hc.block _ h.nrow.lt (fun e => h.ne10 _ e rfl)), fun k e => ⟨(h.ne9 k e).1, fun e2 => ?_⟩, fun k e => ?_, h.below.trans (hc.below h.below.size (fun k e => (h.out.base_le e).1))⟩, hc⟩
  · rcases ho k e2 with h1 | h1
    · exact (h.ne9 k e).2 h1
    · have := (h.at_.base_le e).2; omega
  · rcases ho k e with h1 | h1
    · exact h.ne10 k h1
    · have := h.nrow.lt; omega
theorem TrR.set {w : World} {gn n m c : Nat} {A : Option Addr} {v10 : Value} {ix : List Int} {out : List Stp} {need : List Bool} {W : World} (h : TrR w gn n (.slice A m c) v10 ix out need W) {i : Nat} (hi : i < ix.length) (v : Int) :
    ∃ b o, A = some ⟨b, o, none⟩ ∧ w.heap.size ≤ b ∧ b < W.heap.size ∧ v10.ownBlock ≠ some b ∧ W.frozen? ⟨b, o + i, none⟩ = false ∧ (∀ j, j < ix.length → W.cell? ⟨b, o + j, none⟩ = some (.int .i64 (ix.getD j 0))) ∧ TrR w gn n (.slice A m c) v10 (ix.set i v) out need (W.setCell ⟨b, o + i, none⟩ (.int .i64 v)) := by
  obtain ⟨b, o, rfl, h1, h2, h3, h4, h5⟩ := mine_set h.at_ hi v
  have hne := h.ne9 b rfl
  have hc : Chg (fun k => k = b) W (W.setCell ⟨b, o + i, none⟩ (.int .i64 v)) := Chg.setCell (T := fun k => k = b) (p := ⟨b, o + i, none⟩) rfl _
  exact ⟨b, o, rfl, h1, h2, hne.2, h3, h4, h5, h.out.chg hc (fun _ h => h.elim) (fun k e e2 => hne.2 (by rw [← e2]; exact e)), h.nrow.of_block (hc.block _ h.nrow.lt (fun e => hne.1 e.symm)), h.ne9, h.ne10, h.below.trans (hc.below h.below.size (fun k e => by rw [e]; exact h1))⟩
theorem set_last (ix : List Int) (x v : Int) {i : Nat} (h : ix.length = i) : (ix ++ [x]).set i v = ix ++ [v] := by
  rw [List.set_append_right _ _ (by omega), h, Nat.sub_self]
  rfl
/-- the reference's Trim, which gives new indices to all, makes the same steps -/
theorem trim_ref {l : List Cls} {p : List Stp} (h : (needB l p).2 = 0) : trimF (fun _ k => ((l.length + k : Nat) : Int)) l.length p ((needB l p).1.drop l.length) (idL l.length) [] = trimF (fun a _ => (a : Int)) l.length p ((needB l p).1.drop l.length) (idL l.length) [] := by
  obtain ⟨all, f, hR, hck, hpl, hf, hnb, hM⟩ := needB_ok h
  rw [trim_sel hM hR, trim_sel hM hR]

set_option maxRecDepth 100000 in
set_option maxHeartbeats 4000000 in
theorem rtrim_calls (Sl Sp : Nat → Prop) (Al Ap : Option Addr) (cl cp : Nat) (l : List Cls) (p : List Stp) (w : World) (hl : C kL Sl w Al l) (hcl : l.length ≤ cl) (hp : C kS Sp w Ap p) (hcp : p.length ≤ cp) (hll : l.length ≤ 1000000) (hlc : 500 < l.length ∨ ∀ c ∈ l, c.length ≤ 1000000000) (hpi : ∀ s ∈ p, -9223372036854775808 ≤ s.2.2 ∧ s.2.2 ≤ 9223372036854775807) :
    Calls Try.prog 29 #[.slice Al l.length cl, .slice Ap p.length cp] w (TrimEnd w (trimB l p)) := by
  have HN := Lib.hid (rneeded_calls Sl Sp Al Ap cl cp l p w hl hcl hp hcp hll hlc hpi)
  have HP := Lib.hid hp
  have hok0 := need_ok (l := l) (p := p)
  have htr0 := trim_ref (l := l) (p := p)
  obtain ⟨⟨need, e0⟩, hM⟩ : ∃ q, needB l p = q := ⟨_, rfl⟩
  unfold trimB
  rw [hM] at HN hok0 htr0 ⊢
  dsimp only at hok0 htr0 ⊢
  clear hl hp hpi hlc hM
  by_cases hE : e0 = 0
  · subst hE
    obtain ⟨⟨all, hrep⟩, hlen, hp20⟩ := hok0 rfl
    rw [if_neg (fun e => e rfl)]
    have htr := htr0 rfl
    have HRep := Lib.hid hrep
    obtain ⟨O, hO⟩ : ∃ O, trimF (fun a _ => (a : Int)) l.length p (need.drop l.length) (idL l.length) [] = O := ⟨_, rfl⟩
    rw [hO] at htr ⊢
    have HO := Lib.hid htr
    obtain ⟨n, hn⟩ : ∃ n, need.length = n := ⟨_, rfl⟩
    have hn2 : l.length + p.length = n := by omega
    have Hn := Lib.hid hn
    have Hn2 := Lib.hid hn2
    have hlm : l.length ≤ 9223372036854775807 := by omega
    have hpm : p.length ≤ 9223372036854775807 := by omega
    have hnm : n ≤ 2000000 := by omega
    have HN2 := Lib.hid (HN.out.mono (R' := fun e w' => (∃ g, e = .returned (.tuple #[.slice (some ⟨g, 0, none⟩) n n, .bool true, .int .i64 0]) ∧ w.heap.size ≤ g ∧ w'.rowIs g 4 n (fun j => .bool (need.getD j false))) ∧ Below w.heap.size w w') (fun e w' h => by
      unfold RNeedEnd at h
      rw [if_pos rfl] at h
      dsimp only at h
      rw [hn] at h
      exact h))
    clear HN
    clear hrep hO hn hn2 hlen hok0 htr htr0
    go_enter Try.func29, Try.ntmps29
    go_wp2_with fail
    refine HN2.out.mono ?_
    rintro e w1 ⟨⟨gn, rfl, hgn, hrn⟩, hb1⟩
    have HRn := Lib.hid hrn
    have HB1 := Lib.hid hb1
    have hwa : Below w1.heap.size w1 (w1.alloc (.cells #[] 3)) := (Below.refl _ _).alloc (Nat.le_refl _) _
    have hwb : Below w1.heap.size w1 ((w1.alloc (.cells #[] 3)).alloc (.cells #[] 67)) := hwa.alloc hwa.size _
    have hS0 : Hid (TrR w gn n (.slice (some ⟨w1.heap.size, 0, none⟩) 0 0) (.slice (some ⟨w1.heap.size + 1, 0, none⟩) 0 0) [] [] need ((w1.alloc (.cells #[] 3)).alloc (.cells #[] 67))) := Lib.hid
      ⟨mine_empty kI HB1.out.size (by simp; omega), mine_empty kS (by have := HB1.out.size; omega) (by simp), HRn.out.of_block (hwb.block _ HRn.out.lt), fun k e => by
        simp [Value.ownBlock] at e
        subst e
        exact ⟨Nat.ne_of_gt HRn.out.lt, by simp [Value.ownBlock]⟩, fun k e => by
        simp [Value.ownBlock] at e
        subst e
        have := HRn.out.lt
        omega, HB1.out.trans (hwb.mono HB1.out.size)⟩
    clear hwa hwb hrn hb1 HN2 HRn HB1
    go_wp2_with fail
    go_loopg [9, 10, 11] n (fun gg v9 v10 v11 wr => ∃ (i : Nat) (out : List Stp) (ix : List Int) (A A' : Option Addr) (c c' m : Nat), v9 = .slice A i c ∧ v10 = .slice A' m c' ∧ v11 = .int .i64 i ∧ i ≤ n ∧ n - i ≤ gg ∧ Hid (out.length = m) ∧ Hid (TrSt (fun _ k => ((l.length + k : Nat) : Int)) l p need O i ix out) ∧ Hid (TrR w gn n (.slice A i c) (.slice A' m c') ix out need wr))
    case atStart => exact ⟨0, [], [], _, _, _, _, 0, rfl, rfl, rfl, by omega, by omega, Lib.hid rfl, Lib.hid (TrSt.start HO.out), by simpa using hS0⟩
    case round =>
      clear hS0
      obtain ⟨i, out, ix, A, A', c, c', m, rfl, rfl, rfl, hi, hgg, HOl, HT, HX⟩ := hrel
      by_cases hlt : i < n
      · have hltz : (i : Int) < (n : Int) := by omega
        have hi0 : (0 : Int) ≤ (i : Int) := by omega
        have Hlt := Lib.hid hlt
        have Hil := Lib.hid HT.out.1
        obtain ⟨A2, c2, w2, hrun, hX2⟩ := HX.out.push Hil.out (by omega) (i : Int)
        have HRun := Lib.hid hrun
        have HX2 := Lib.hid hX2
        clear hrun hX2
        by_cases hlo : i < l.length
        · have hloz : (i : Int) < (l.length : Int) := by omega
          have HT2 := Lib.hid (HT.out.low HO.out hlo)
          clear hlt
          go_wp2_with (at_builtin; refine G.wpList_append_run rfl _ _ _ rfl _ _ rfl rfl _ _ HRun.out ?_)
          go_roundg (n - (i + 1))
          case measure => omega
          case rel => exact ⟨i + 1, out, _, A2, A', c2, c', m, rfl, rfl, by go_num, Hlt.out, Nat.le_refl _, HOl, HT2, HX2⟩
        · have hloz : ¬ (i : Int) < (l.length : Int) := by omega
          have hj : i - l.length < p.length := by have := Hn2.out; omega
          obtain ⟨vv, hvv⟩ : ∃ vv : Nat, l.length + out.length = vv := ⟨_, rfl⟩
          have hol := HT.out.2.1
          have hsub : IntKind.i64.wrap ((i : Int) - (l.length : Int)) = ((i - l.length : Nat) : Int) := by rw [IntKind.wrap_i64]; omega
          have hadd : IntKind.i64.wrap ((l.length : Int) + (m : Int)) = (vv : Int) := by rw [IntKind.wrap_i64]; have := HOl.out; omega
          have hml : m ≤ 9223372036854775807 := by have := HOl.out; omega
          obtain ⟨b, o, rfl, hwb, hbl, hnb, hfz, hcells, hX3⟩ := HX2.out.set (i := i) (by rw [List.length_append, Hil.out]; simp) (vv : Int)
          rw [set_last _ _ _ Hil.out] at hX3
          have qc := hcells i (by rw [List.length_append, Hil.out]; simp)
          have hi1 : (i : Int) < ((i : Int) + 1) := by omega
          have qn := hX3.nrow.cell hlt
          have HX3 := Lib.hid hX3
          cases hd : need.getD i false with
          | false =>
            rw [hd] at qn
            have HT2 := Lib.hid (HT.out.skip (by omega) hj (by rw [Hn.out]; exact hlt) hd)
            rw [hvv] at HT2
            clear hcells hX3 hlt hd hvv hol hj
            go_upto_region 11 with (at_builtin; refine G.wpList_append_run rfl _ _ _ rfl _ _ rfl rfl _ _ HRun.out ?_)
            go_wp2
            go_roundg (n - (i + 1))
            case measure => omega
            case rel => exact ⟨i + 1, out, ix ++ [(vv : Int)], _, A', c2, c', m, rfl, rfl, by go_num, Hlt.out, Nat.le_refl _, HOl, HT2, HX3⟩
          | true =>
            rw [hd] at qn
            obtain ⟨a, b', st, es, hai, hbi⟩ := rep_step HRep.out (i - l.length) hj
            have HT0 := HT.out.take (by omega) hj (by rw [Hn.out]; exact hlt) hd es
            obtain ⟨bp, op, rfl, hbp, p0, p1, p2⟩ := step_at (HP.out.below HX3.out.below) (i - l.length) hj
            rw [es] at p0 p1 p2
            dsimp only at p0 p1 p2
            rw [hvv] at HT0
            have HT2 := Lib.hid HT0
            have hnj : ((i - l.length : Nat) : Int) < (p.length : Int) := by omega
            have hnj0 : (0 : Int) ≤ ((i - l.length : Nat) : Int) := by omega
            have haz : (a : Int) < (i : Int) + 1 := by omega
            have hbz : (b' : Int) < (i : Int) + 1 := by omega
            have haz0 : (0 : Int) ≤ (a : Int) := by omega
            have hbz0 : (0 : Int) ≤ (b' : Int) := by omega
            have Hai : Hid (a < ix.length) := Lib.hid (by rw [Hil.out]; omega)
            have Hbi : Hid (b' < ix.length) := Lib.hid (by rw [Hil.out]; omega)
            have Hxl : Hid ((ix ++ [(vv : Int)]).length = i + 1) := Lib.hid (by rw [List.length_append, Hil.out]; rfl)
            have Hm := Lib.hid (show m ≤ 10000000 by have := HOl.out; omega)
            clear hcells hX3 hlt hd HT0 hvv hol hj es hai hbi HT HX HX2
            generalize i - l.length = j at *
            go_upto_region 11 with (at_builtin; refine G.wpList_append_run rfl _ _ _ rfl _ _ rfl rfl _ _ HRun.out ?_)
            go_upto_region 12 with fail
            generalize hW3 : w2.setCell ⟨b, o + i, none⟩ (.int .i64 (vv : Int)) = W3 at HX3 qn p0 p1 p2 ⊢
            clear hW3 qc hfz
            have hx4 := HX3.out.step ((Below.refl W3.heap.size W3).alloc (Nat.le_refl _) (.cells #[.int .i64 (a : Int), .int .i64 (b' : Int), .int .i64 st] 67))
            have HX4 := Lib.hid hx4
            have hown := fun k (e : (Value.slice A' m c').ownBlock = some k) => (HX3.out.out.base_le e).2
            have c0 : (W3.alloc (.cells #[.int .i64 (a : Int), .int .i64 (b' : Int), .int .i64 st] 67)).cell? ⟨W3.heap.size, 0, none⟩ = some (.int .i64 (a : Int)) := by simp only [World.cell?, alloc_new]; rfl
            have c1 : (W3.alloc (.cells #[.int .i64 (a : Int), .int .i64 (b' : Int), .int .i64 st] 67)).cell? ⟨W3.heap.size, 1, none⟩ = some (.int .i64 (b' : Int)) := by simp only [World.cell?, alloc_new]; rfl
            have c2' : (W3.alloc (.cells #[.int .i64 (a : Int), .int .i64 (b' : Int), .int .i64 st] 67)).cell? ⟨W3.heap.size, 2, none⟩ = some (.int .i64 st) := by simp only [World.cell?, alloc_new]; rfl
            go_upto_region 14 with fail
            generalize hW4 : W3.alloc (.cells #[.int .i64 (a : Int), .int .i64 (b' : Int), .int .i64 st] 67) = W4 at hx4 HX4 c0 c1 c2' ⊢
            clear hW4 qn p0 p1 p2 HX3
            generalize W3.heap.size = gs at hown c0 c1 c2' ⊢
            obtain ⟨b9, o9, e9, _, _, _, hcl, _⟩ := mine_set (i := a) hx4.at_ (by rw [Hxl.out]; have := Hai.out; have := Hil.out; omega) 0
            simp only [Option.some.injEq, Addr.mk.injEq, and_true] at e9
            obtain ⟨rfl, rfl⟩ := e9
            have ca := hcl a (by rw [Hxl.out]; have := Hai.out; have := Hil.out; omega)
            have cb := hcl b' (by rw [Hxl.out]; have := Hbi.out; have := Hil.out; omega)
            rw [show (ix ++ [(vv : Int)]).getD a 0 = ix.getD a 0 by simp [List.getD_eq_getElem?_getD, List.getElem?_append_left Hai.out]] at ca
            rw [show (ix ++ [(vv : Int)]).getD b' 0 = ix.getD b' 0 by simp [List.getD_eq_getElem?_getD, List.getElem?_append_left Hbi.out]] at cb
            generalize ix.getD a 0 = x at ca HT2
            generalize ix.getD b' 0 = y at cb HT2
            obtain ⟨A5, c5, w5, hrun5, hx5, hch⟩ := hx4.pushS (W' := W4.drew) (Chg.below1 W4) HOl.out Hm.out x y st
            have HRun5 := Lib.hid hrun5
            have HX5 := Lib.hid hx5
            have d0 := hch.cell c0 (fun e => absurd (hown _ e) (Nat.lt_irrefl _))
            have d1 := hch.cell c1 (fun e => absurd (hown _ e) (Nat.lt_irrefl _))
            have d2 := hch.cell c2' (fun e => absurd (hown _ e) (Nat.lt_irrefl _))
            have da := hch.cell ca (fun e => hnb e)
            have db := hch.cell cb (fun e => hnb e)
            have Hol2 : Hid ((out ++ [(x, y, st)]).length = m + 1) := Lib.hid (by rw [List.length_append, HOl.out]; rfl)
            clear hcl hrun5 hx5 hch hx4 hown HX4 Hai Hbi HRun
            go_region_held3 (fun W' => W'.cell? ⟨gs, 0, none⟩ = some (.int .i64 (a : Int)) ∧ W'.cell? ⟨gs, 1, none⟩ = some (.int .i64 (b' : Int)) ∧ W'.cell? ⟨gs, 2, none⟩ = some (.int .i64 st) ∧ W'.cell? ⟨b, o + a, none⟩ = some (.int .i64 x) ∧ W'.cell? ⟨b, o + b', none⟩ = some (.int .i64 y)) (go_keep)
              (first
                | (rw [if_pos (by rfl)]
                   refine wp_append_run _ _ _ rfl _ _ rfl rfl _ _ HRun5.out ?_))
            all_goals
              go_wp2
              go_roundg (n - (i + 1))
              case measure => omega
              case rel => exact ⟨i + 1, out ++ [(x, y, st)], ix ++ [(vv : Int)], _, A5, c2, c5, m + 1, rfl, rfl, by go_num, Hlt.out, Nat.le_refl _, Hol2, HT2, HX5⟩
      · have hltz : ¬ (i : Int) < (n : Int) := by omega
        have ein : i = n := by omega
        subst ein
        have hout : out = O := (show TrSt (fun _ k => ((l.length + k : Nat) : Int)) l p need O need.length ix out by rw [Hn.out]; exact HT.out).done (by have := Hn2.out; rw [Hn.out]; omega)
        have Hout := Lib.hid hout
        clear hout
        go_wp2
        go_ret2
        obtain rfl := Hout.out
        obtain rfl := HOl.out
        exact ⟨by rw [if_pos rfl]; exact ⟨_, _, rfl, HX.out.out⟩, HX.out.below⟩
  · rw [if_pos hE]
    have gE : (e0 != 0) = true := bne_iff_ne.2 hE
    have HE := Lib.hid hE
    have HN2 := Lib.hid (HN.out.mono (R' := fun e w' => e = .returned (.tuple #[.slice none 0 0, .bool false, .int .i64 e0]) ∧ Below w.heap.size w w') (fun e w' h => by
      unfold RNeedEnd at h
      rw [if_neg hE] at h
      exact h))
    clear hE hok0 HN htr0
    go_enter Try.func29, Try.ntmps29
    go_wp2_with fail
    refine HN2.out.mono ?_
    rintro e w1 ⟨rfl, hb1⟩
    have HB1 := Lib.hid hb1
    clear HN2 hb1
    go_wp2
    go_ret2
    exact ⟨by rw [if_neg HE.out]; rfl, HB1.out⟩
end Go.Proofs.Ytggfjfmgclcnlaa.Zb
namespace Go.Proofs.Ytggfjfmgclcnlaa.Zb
open Go Go.RowKit Go.Shelf Go.Proofs.Ytggfjfmgclcnlaa.K Go.Proofs.Ytggfjfmgclcnlaa.G Go.Proofs.Ytggfjfmgclcnlaa.Z
set_option linter.unusedSimpArgs false
set_option linter.unusedVariables false

set_option maxRecDepth 100000 in
set_option maxHeartbeats 2000000 in
theorem equal_rsteps {S S' : Nat → Prop} {A B : Option Addr} {ca cb : Nat} {a : List Stp} {w : World} (ha : C kS S w A a) (hb : C kS S' w B a) :
    Calls Try.prog 30 #[.slice A a.length ca, .slice B a.length cb] w fun e w' => e = .returned (.bool true) ∧ ∃ k, w' = w.drewN k := by
  have hla : a.length ≤ 9223372036854775807 := by have := ha.len; unfold maxLen at this; omega
  have HA := Lib.hid ha
  have HB := Lib.hid hb
  clear ha hb
  go_enter Try.func30, Try.ntmps30
  go_wp2_with fail
  go_loopg [13] a.length (fun gg v13 wr => ∃ i : Nat, v13 = .int .i64 i ∧ i ≤ a.length ∧ a.length - i ≤ gg ∧ Hid (∃ k, wr = w.drewN k))
  case atStart => exact ⟨0, rfl, by omega, by omega, Lib.hid ⟨0, rfl⟩⟩
  case round =>
    obtain ⟨i, rfl, hi, hg, HD⟩ := hrel
    by_cases hlt : i < a.length
    · have hltz : (i : Int) < (a.length : Int) := by omega
      have hi0 : (0 : Int) ≤ (i : Int) := by omega
      have Hlt := Lib.hid hlt
      obtain ⟨k, rfl⟩ := HD.out
      obtain ⟨b1, o1, rfl, hb1, q0, q1, q2⟩ := step_at HA.out i hlt
      obtain ⟨b2, o2, rfl, hb2, r0, r1, r2⟩ := step_at HB.out i hlt
      generalize a[i]'hlt = s at *
      obtain ⟨x, y, z⟩ := s
      dsimp only at q0 q1 q2 r0 r1 r2
      have p0 : (w.drewN k).cell? ⟨b1, o1 + i * 3, none⟩ = some (.int .i64 x) := q0
      have p1 : (w.drewN k).cell? ⟨b1, o1 + i * 3 + 1, none⟩ = some (.int .i64 y) := q1
      have p2 : (w.drewN k).cell? ⟨b1, o1 + i * 3 + 2, none⟩ = some (.int .i64 z) := q2
      have s0 : (w.drewN k).cell? ⟨b2, o2 + i * 3, none⟩ = some (.int .i64 x) := r0
      have s1 : (w.drewN k).cell? ⟨b2, o2 + i * 3 + 1, none⟩ = some (.int .i64 y) := r1
      have s2 : (w.drewN k).cell? ⟨b2, o2 + i * 3 + 2, none⟩ = some (.int .i64 z) := r2
      clear q0 q1 q2 r0 r1 r2 HD hlt
      generalize hw : w.drewN k = wr at *
      have HW : Hid (∃ k, wr = w.drewN k) := Lib.hid ⟨k, hw.symm⟩
      clear hw
      go_upto_region 6 with fail
      go_quiet (fail)
      go_wp2
      go_roundg (a.length - (i + 1))
      case measure => have := Hlt.out; omega
      case rel => exact ⟨i + 1, by go_num, Hlt.out, Nat.le_refl _, Lib.hid (drewN_more HW.out _)⟩
    · have hltz : ¬ (i : Int) < (a.length : Int) := by omega
      go_wp2
      go_ret
      exact ⟨rfl, HD.out⟩
theorem eq1_calls {S S' : Nat → Prop} {A B : Option Addr} {ca cb : Nat} {a : List Int} {w : World} (ha : C kI S w A a) (hb : C kI S' w B a) :
    Calls Try.prog 27 #[.slice A a.length ca, .slice B a.length cb] w fun e w' => e = .returned (.bool true) ∧ ∃ k, w' = w.drewN k := by
  have H := Lib.hid (equal_calls (ca := ca) (cb := cb) ha hb)
  rw [decide_eq_true (rfl : a = a)] at H
  clear ha hb
  go_enter Try.func27, Try.ntmps27
  go_wp2_with fail
  refine H.out.mono ?_
  rintro e w1 ⟨rfl, k, rfl⟩
  go_wp2
  go_ret
  exact ⟨rfl, k, rfl⟩
set_option maxRecDepth 100000 in
set_option maxHeartbeats 2000000 in
theorem equal_cls {S S' : Nat → Prop} {A B : Option Addr} {ca cb : Nat} {l : List Cls} {w : World} (ha : C kL S w A l) (hb : C kL S' w B l) :
    Calls Try.prog 26 #[.slice A l.length ca, .slice B l.length cb, .func (.func 27) #[] #[]] w fun e w' => e = .returned (.bool true) ∧ ∃ k, w' = w.drewN k := by
  have eg := enters_of Try.func27 (by kernel_rfl) rfl
  have hlm : l.length ≤ 9223372036854775807 := by have := ha.len; unfold maxLen at this; omega
  have HA := Lib.hid (fun k => ha.below (below_dn w k))
  have HB := Lib.hid (fun k => hb.below (below_dn w k))
  clear ha hb
  go_enter Try.func26, Try.ntmps26
  go_wp2_with fail
  go_loopg [17] l.length (fun gg v17 wr => ∃ i : Nat, v17 = .int .i64 i ∧ i ≤ l.length ∧ l.length - i ≤ gg ∧ Hid (∃ k, wr = w.drewN k))
  case atStart => exact ⟨0, rfl, by omega, by omega, Lib.hid ⟨0, rfl⟩⟩
  case round =>
    obtain ⟨i, rfl, hi, hg, HD⟩ := hrel
    by_cases hlt : i < l.length
    · have hltz : (i : Int) < (l.length : Int) := by omega
      have hi0 : (0 : Int) ≤ (i : Int) := by omega
      have Hlt := Lib.hid hlt
      obtain ⟨k, hk⟩ := HD.out
      have ha2 := HA.out k
      have hb2 := HB.out k
      rw [← hk] at ha2 hb2
      obtain ⟨b1, o1, A1, cp1, rfl, hb1, q1, hc1, hC1⟩ := cls_at ha2 i hlt
      obtain ⟨b2, o2, A2, cp2, rfl, hb2', q2, hc2, hC2⟩ := cls_at hb2 i hlt
      generalize l[i]'hlt = x at *
      have HQ := Lib.hid (eq1_calls (ca := cp1) (cb := cp2) hC1 hC2)
      have HW : Hid (∃ k, wr = w.drewN k) := Lib.hid ⟨k, hk⟩
      clear hC1 hC2 hk ha2 hb2 HD hlt hb1 hb2' hc1 hc2
      go_wp2_with fail
      refine HQ.out.mono ?_
      rintro e w' ⟨rfl, j, rfl⟩
      go_wp2
      go_roundg (l.length - (i + 1))
      case measure => have := Hlt.out; omega
      case rel => exact ⟨i + 1, by go_num, Hlt.out, Nat.le_refl _, Lib.hid (drewN_more HW.out _)⟩
    · have hltz : ¬ (i : Int) < (l.length : Int) := by omega
      go_wp2
      go_ret
      exact ⟨rfl, HD.out⟩
theorem trimB_few (l : List Cls) (p : List Stp) : (trimB l p).1.length ≤ p.length := by
  by_cases h : (trimB l p).2 = 0
  · obtain ⟨_, _, _, _, h3, _⟩ := trim_law h
    exact h3
  · rw [trimB_nil h]; exact Nat.zero_le _

set_option maxRecDepth 100000 in
set_option maxHeartbeats 8000000 in
theorem replays_calls (S1 S2 : Nat → Prop) (A1 A2 : Option Addr) (c1 c2 : Nat) (l : List Cls) (p : List Stp) (w : World) (hl : C kL S1 w A1 l) (hc1 : l.length ≤ c1) (hp : C kS S2 w A2 p) (hc2 : p.length ≤ c2) (hpi : ∀ s ∈ p, -9223372036854775808 ≤ s.2.2 ∧ s.2.2 ≤ 9223372036854775807) :
    Calls Try.prog 6 #[.slice A1 l.length c1, .slice A2 p.length c2] w fun e w' => e = .returned (.bool true) ∧ Below w.heap.size w w' := by
  have hlm : l.length ≤ 9223372036854775807 := by have := hl.len; unfold maxLen at this; omega
  have hpm : p.length ≤ 9223372036854775807 := by have := hp.len; unfold maxLen at this; omega
  have HS1 : Hid (Calls Try.prog 7 #[.slice A1 l.length c1, .slice A2 p.length c2, .int .i64 200] w fun e w' => e = .returned (.bool (smallB l p.length 200)) ∧ Below w.heap.size w w') := Lib.hid (small_calls hl hc1 A2 p.length c2 hpm 200 (by decide))
  have HAw := Lib.hid (fun W => awake_calls W)
  have hcase : (smallB l p.length 200 = false ∧ (l.length ≤ 500 ∨ 600 < l.length ∨ 200 < p.length)) ∨ ((smallB l p.length 200 = true ∨ (smallB l p.length 200 = false ∧ 500 < l.length ∧ l.length ≤ 600 ∧ p.length ≤ 200)) ∧ (l.length ≤ 600 ∧ p.length ≤ 200 ∧ (500 < l.length ∨ ∀ c ∈ l, c.length ≤ 1000000000))) := by
    cases hs : smallB l p.length 200 with
    | true =>
      obtain ⟨h1, h2⟩ := small_lens hs
      unfold smallB at hs
      simp only [Bool.and_eq_true, decide_eq_true_eq] at hs
      exact .inr ⟨.inl rfl, by omega, hs.1.2, .inr (fun c hc => Nat.le_trans (h2 c hc) (by decide))⟩
    | false =>
      by_cases h : l.length ≤ 500 ∨ 600 < l.length ∨ 200 < p.length
      · exact .inl ⟨rfl, h⟩
      · exact .inr ⟨.inr ⟨rfl, by omega, by omega, by omega⟩, by omega, by omega, .inl (by omega)⟩
  rcases hcase with ⟨hs, hst⟩ | ⟨hs, hl6, hp2, hlc⟩
  · rw [hs] at HS1
    clear hl hp hs hpi
    have hst2 : (l.length : Int) ≤ 500 ∨ (¬ (l.length : Int) ≤ 500 ∧ (l.length : Int) > 600) ∨ (¬ (l.length : Int) ≤ 500 ∧ ¬ (l.length : Int) > 600 ∧ (p.length : Int) > 200) := by omega
    clear hst
    rcases hst2 with g1 | ⟨g1, g2⟩ | ⟨g1, g2, g3⟩
    all_goals
      go_enter Try.func6, Try.ntmps6
      go_wp2_with fail
      refine HS1.out.mono ?_
      rintro e w1 ⟨rfl, hb1⟩
      have HB1 := Lib.hid hb1
      clear hb1 HS1
      go_wp2_with fail
      refine (HAw.out _).mono ?_
      rintro e w2 ⟨rfl, hb2⟩
      have HB2 := Lib.hid (HB1.out.trans (hb2.mono HB1.out.size))
      clear hb2
      go_wp2
      go_ret
      exact ⟨rfl, HB2.out⟩
  · have HCl := Lib.hid (fun W (hb : Below w.heap.size w W) => clauses_calls (hl.below hb) hc1 (by omega))
    have HSt := Lib.hid (fun W (hb : Below w.heap.size w W) => steps_calls (hp.below hb) hc2 (by omega))
    have HCk := Lib.hid (fun W A c (S : Nat → Prop) (h : C kL S W A l) (hc : l.length ≤ c) => check_calls2 h hc (by omega) hlc)
    have HRCk := Lib.hid (fun W (hb : Below w.heap.size w W) => rcheck_calls2 (hl.below hb) hc1 (by omega) hlc)
    have HRp := Lib.hid (fun W A B c d (S S' : Nat → Prop) (h : C kL S W A l) (hc : l.length ≤ c) (h' : C kS S' W B p) (hd : p.length ≤ d) => replay_calls2 S S' A B c d l p W h hc h' hd (by omega) hlc hpi)
    have HRRp := Lib.hid (fun W (hb : Below w.heap.size w W) => rreplay_calls2 S1 S2 A1 A2 c1 c2 l p W (hl.below hb) hc1 (hp.below hb) hc2 (by omega) hlc hpi)
    have HTr := Lib.hid (fun W A B c d (S S' : Nat → Prop) (h : C kL S W A l) (hc : l.length ≤ c) (h' : C kS S' W B p) (hd : p.length ≤ d) => (trim_calls2 S S' A B c d l p W h hc h' hd (by omega) hlc hpi).mono (fun _ _ h => h.any))
    have HRTr := Lib.hid (fun W (hb : Below w.heap.size w W) => (rtrim_calls S1 S2 A1 A2 c1 c2 l p W (hl.below hb) hc1 (hp.below hb) hc2 (by omega) hlc hpi).mono (fun _ _ h => h.any))
    have hfw := trimB_few l p
    obtain ⟨⟨O, e3⟩, hTB⟩ : ∃ R, trimB l p = R := ⟨_, rfl⟩
    obtain ⟨⟨M, k0, e0⟩, hRB⟩ : ∃ R, replB l p = R := ⟨_, rfl⟩
    rw [hTB] at HTr HRTr hfw
    rw [hRB] at HRp HRRp
    dsimp only at hfw
    have Hfw : Hid (O.length ≤ 1000000) := Lib.hid (by omega)
    generalize checkL l = E at HCk HRCk
    clear hTB hRB hl hp hpi hlc hfw
    unfold RpEnd at HRp HRRp
    dsimp only at HTr HRTr HRp HRRp
    have hcc : (smallB l p.length 200 = true) ∨ (smallB l p.length 200 = false ∧ ¬ (l.length : Int) ≤ 500 ∧ ¬ (l.length : Int) > 600 ∧ ¬ (p.length : Int) > 200) := by
      rcases hs with h | ⟨h, _⟩
      · exact .inl h
      · exact .inr ⟨h, by omega, by omega, by omega⟩
    clear hs
    rcases hcc with hs | ⟨hs, g1, g2, g3⟩
    all_goals
      rw [hs] at HS1
      clear hs
      go_enter Try.func6, Try.ntmps6
      go_wp2_with fail
      refine HS1.out.mono ?_
      rintro e w1 ⟨rfl, hb1⟩
      have HB1 := Lib.hid hb1
      clear hb1 HS1
      go_wp2_with fail
      refine (HCl.out _ HB1.out).mono ?_
      rintro e w2 ⟨A3, c3, rfl, hx2⟩
      have HB2 := Lib.hid (HB1.out.trans (hx2.below.mono HB1.out.size))
      have HX2 := Lib.hid hx2.all.read
      clear hx2
      go_wp2_with fail
      refine (HSt.out _ HB2.out).mono ?_
      rintro e w3 ⟨A4, c4, rfl, hm3, hb3⟩
      have HB3 := Lib.hid (HB2.out.trans (hb3.mono HB2.out.size))
      have HX3 := Lib.hid hm3.read
      have HY3 := Lib.hid (HX2.out.2.2.below hb3)
      clear hm3 hb3
      go_wp2_with fail
      refine (HRp.out _ _ _ _ _ _ _ HY3.out HX2.out.2.1 HX3.out.2.2 HX3.out.2.1).mono ?_
      rintro e w4 ⟨A5, c5, rfl, hc5, hC5, hb4⟩
      dsimp only at hc5 hC5 ⊢
      have HB4 := Lib.hid (HB3.out.trans (hb4.mono HB3.out.size))
      have HC5 := Lib.hid hC5
      clear hb4 hC5 HX2 HX3 HY3
      go_wp2_with fail
      refine (HRRp.out _ HB4.out).mono ?_
      rintro e w5 ⟨A6, c6, rfl, hc6, hC6, hb5⟩
      dsimp only at hc6 hC6 ⊢
      have HB5 := Lib.hid (HB4.out.trans (hb5.mono HB4.out.size))
      have HC5' := Lib.hid (HC5.out.below hb5)
      have HC6 := Lib.hid hC6
      clear hb5 hC6 HC5
      have n1 : (e0 != e0) = false := bne_self_eq_false _
      have n2 : (k0 != k0) = false := bne_self_eq_false _
      go_wp2_with fail
      refine (HCl.out _ HB5.out).mono ?_
      rintro e w6 ⟨A7, c7, rfl, hx6⟩
      have HB6 := Lib.hid (HB5.out.trans (hx6.below.mono HB5.out.size))
      have HX6 := Lib.hid hx6.all.read
      have HD5 := Lib.hid (HC5'.out.below (hx6.below))
      have HD6 := Lib.hid (HC6.out.below (hx6.below))
      clear hx6 HC5' HC6
      go_wp2_with fail
      refine (HCk.out _ _ _ _ HX6.out.2.2 HX6.out.2.1).mono ?_
      rintro e w7 ⟨rfl, hb7⟩
      have HB7 := Lib.hid (HB6.out.trans (hb7.mono HB6.out.size))
      have HE5 := Lib.hid (HD5.out.below hb7)
      have HE6 := Lib.hid (HD6.out.below hb7)
      clear hb7 HD5 HD6 HX6
      have n3 : (E != E) = false := bne_self_eq_false _
      go_wp2_with fail
      refine (HRCk.out _ HB7.out).mono ?_
      rintro e w8 ⟨rfl, hb8⟩
      have HB8 := Lib.hid (HB7.out.trans (hb8.mono HB7.out.size))
      have HF5 := Lib.hid (HE5.out.below hb8)
      have HF6 := Lib.hid (HE6.out.below hb8)
      clear hb8 HE5 HE6
      go_wp2_with fail
      refine (equal_cls HF5.out HF6.out).mono ?_
      rintro e w9 ⟨rfl, j, rfl⟩
      have HB9 : Hid (Below w.heap.size w (w8.drewN j)) := Lib.hid (below_drewN HB8.out j)
      clear HF5 HF6
      generalize w8.drewN j = w9 at *
      go_wp2_with fail
      refine (HCl.out _ HB9.out).mono ?_
      rintro e w10 ⟨A8, c8, rfl, hx2⟩
      have HB10 := Lib.hid (HB9.out.trans (hx2.below.mono HB9.out.size))
      have HX2 := Lib.hid hx2.all.read
      clear hx2
      go_wp2_with fail
      refine (HSt.out _ HB10.out).mono ?_
      rintro e w11 ⟨A9, c9, rfl, hm3, hb3⟩
      have HB11 := Lib.hid (HB10.out.trans (hb3.mono HB10.out.size))
      have HX3 := Lib.hid hm3.read
      have HY3 := Lib.hid (HX2.out.2.2.below hb3)
      clear hm3 hb3
      go_wp2_with fail
      refine (HTr.out _ _ _ _ _ _ _ HY3.out HX2.out.2.1 HX3.out.2.2 HX3.out.2.1).mono ?_
      rintro e w12 ⟨A10, c10, rfl, hc10, hC10, hb4⟩
      have HB12 := Lib.hid (HB11.out.trans (hb4.mono HB11.out.size))
      have HC10 := Lib.hid hC10
      have Hc10 := Lib.hid hc10
      clear hb4 hC10 HX2 HX3 HY3 hc10
      go_wp2_with fail
      refine (HRTr.out _ HB12.out).mono ?_
      rintro e w13 ⟨A11, c11, rfl, hc11, hC11, hb5⟩
      have HB13 := Lib.hid (HB12.out.trans (hb5.mono HB12.out.size))
      have HC10' := Lib.hid (HC10.out.below hb5)
      have HC11 := Lib.hid hC11
      clear hb5 hC11 HC10
      have n4 : (e3 == e3) = true := beq_self_eq_true _
      go_wp2_with fail
      refine (back_calls HC10'.out Hc10.out Hfw.out).mono ?_
      rintro e w14 ⟨A12, c12, rfl, hm14, hb14⟩
      have HB14 := Lib.hid (HB13.out.trans (hb14.mono HB13.out.size))
      have HC12 := Lib.hid hm14.read.2.2
      have HC13 := Lib.hid (HC11.out.below hb14)
      clear hm14 hb14
      go_wp2_with fail
      refine (equal_rsteps HC12.out HC13.out).mono ?_
      rintro e w15 ⟨rfl, j2, rfl⟩
      have HB15 : Hid (Below w.heap.size w (w14.drewN j2)) := Lib.hid (below_drewN HB14.out j2)
      generalize w14.drewN j2 = w15 at *
      go_wp2_with fail
      refine (HAw.out _).mono ?_
      rintro e w16 ⟨rfl, hb16⟩
      have HB16 := Lib.hid (HB15.out.trans (hb16.mono HB15.out.size))
      clear hb16
      go_wp2
      go_ret
      exact ⟨rfl, HB16.out⟩
end Go.Proofs.Ytggfjfmgclcnlaa.Zb
