/- Walk of sat.needed. -/
import Derived.Test.YtggfjfmgclcnlaaZf
import Derived.Test.YtggfjfmgclcnlaaIx
import Derived.Deep.OwnRows
namespace Go.Proofs.Ytggfjfmgclcnlaa.Zb
open Go Go.RowKit Go.Shelf Go.Proofs.Ytggfjfmgclcnlaa.K Go.Proofs.Ytggfjfmgclcnlaa.G Go.Proofs.Ytggfjfmgclcnlaa.Z Go.Proofs.Ytggfjfmgclcnlaa.Ix
set_option linter.unusedSimpArgs false
set_option linter.unusedVariables false

theorem infoB : (Try.prog.info? 4).map (fun i => (i.zero, i.size, i.bytes)) = some (some (.bool false), 1, 1) := by kernel_rfl
theorem idx_first {α : Type} (q : α → Bool) : ∀ (xs : List α) (i : Nat), idxP q xs i = match xs.findIdx? q with | none => -1 | some k => ((i + k : Nat) : Int)
  | [], _ => rfl
  | x :: xs, i => by
    rw [idxP, List.findIdx?_cons]
    cases h : q x with
    | true => simp
    | false =>
      rw [if_neg (by decide), idx_first q xs (i + 1)]
      cases h2 : xs.findIdx? q with
      | none => simp
      | some k =>
        show ((i + 1 + k : Nat) : Int) = ((i + (k + 1) : Nat) : Int)
        congr 1
        omega
/-- the function within: no literal -/
theorem nil_calls (A : Option Addr) (n c : Nat) (W : World) (hn : n ≤ 9223372036854775807) : Calls Try.prog 53 #[.slice A n c] W fun e W' => e = .returned (.bool (decide (n = 0))) ∧ Below W.heap.size W W' := by
  have e : (((n : Int) == 0) : Bool) = decide (n = 0) := by
    by_cases h : n = 0
    · subst h; rfl
    · rw [decide_eq_false h]; exact beq_eq_false_iff_ne.2 (by omega)
  go_enter Try.func53, Try.ntmps53
  go_wp2
  go_ret
  exact ⟨by simp, Below.refl _ _⟩
theorem first_calls {S : Nat → Prop} {A : Option Addr} {c : Nat} {xs : List Cls} {w : World} (hC : C kL S w A xs) (hc : xs.length ≤ c) :
    Calls Try.prog 52 #[.slice A xs.length c, .func (.func 53) #[] #[]] w fun e w' => e = .returned (.int .i64 (match firstE xs with | none => -1 | some k => (k : Int))) ∧ Below w.heap.size w w' := by
  have h := IndexFunc_cls kL S rfl (fun c => c.isEmpty) 53 #[] (enters_of Try.func53 (by kernel_rfl) rfl) A c xs w (fun W x cs _ _ hK => by
    obtain ⟨A', c', rfl, h1, h2⟩ := hK
    refine (nil_calls A' x.length c' W (by have := h2.len; simpa [maxLen] using this)).mono ?_
    rintro e W' ⟨rfl, hb⟩
    refine ⟨?_, hb⟩
    cases x <;> rfl) hC hc
  rw [idx_first] at h
  refine h.mono ?_
  rintro e w' ⟨rfl, hb⟩
  refine ⟨?_, hb⟩
  unfold firstE
  cases xs.findIdx? (fun c => c.isEmpty) with
  | none => rfl
  | some k => simp
theorem first_lt {xs : List Cls} {f : Nat} (h : firstE xs = some f) : f < xs.length := (List.findIdx?_eq_some_iff_getElem.1 h).1
theorem rep_step {l : List Cls} {p : List Stp} {all : List Cls} (h : Repl l p all) (j : Nat) (hj : j < p.length) : ∃ (a b : Nat) (t : Int), p[j]'hj = ((a : Int), (b : Int), t) ∧ a < l.length + j ∧ b < l.length + j := by
  obtain ⟨c, _, e2⟩ := h.at_ j _ (List.getElem?_eq_getElem hj)
  obtain ⟨a, b, ha, hb, e3, e4, _⟩ := step1_parts e2
  rw [List.length_take] at ha hb
  refine ⟨a, b, (p[j]'hj).2.2, ?_, by omega, by omega⟩
  rw [← e3, ← e4]
theorem row_set {W : World} {g n i : Nat} {t : TypeId} {need : List Bool} (h : W.rowIs g t n (fun j => .bool (need.getD j false))) (hl : need.length = n) (hi : i < n) : (W.setCell ⟨g, i, none⟩ (.bool true)).rowIs g t n (fun j => .bool ((need.set i true).getD j false)) := by
  refine (h.set i (.bool true)).congr (fun j hj => ?_)
  simp only [List.getD_eq_getElem?_getD, List.getElem?_set]
  by_cases e : j = i
  · subst e
    rw [if_pos rfl, if_pos rfl, if_pos (by omega)]
    rfl
  · rw [if_neg e, if_neg (fun h => e h.symm)]
def NeedEnd (w : World) (R : List Bool × Int) (e : Ending) (w' : World) : Prop :=
  (if R.2 = 0 then ∃ g, e = .returned (.tuple #[.slice (some ⟨g, 0, none⟩) R.1.length R.1.length, .int .i64 0]) ∧ w.heap.size ≤ g ∧ w'.rowIs g 4 R.1.length (fun j => .bool (R.1.getD j false)) else e = .returned (.tuple #[.slice none 0 0, .int .i64 R.2])) ∧ Below w.heap.size w w'

set_option maxRecDepth 100000 in
set_option maxHeartbeats 4000000 in
theorem needed_calls2 (Sl Sp : Nat → Prop) (Al Ap : Option Addr) (cl cp : Nat) (l : List Cls) (p : List Stp) (w : World) (hl : C kL Sl w Al l) (hcl : l.length ≤ cl) (hp : C kS Sp w Ap p) (hcp : p.length ≤ cp) (hll : l.length ≤ 1000000) (hlc : 500 < l.length ∨ ∀ c ∈ l, c.length ≤ 1000000000) (hpi : ∀ s ∈ p, -9223372036854775808 ≤ s.2.2 ∧ s.2.2 ≤ 9223372036854775807) :
    Calls Try.prog 41 #[.slice Al l.length cl, .slice Ap p.length cp] w (NeedEnd w (needB l p)) := by
  have HR := Lib.hid (replay_calls2 Sl Sp Al Ap cl cp l p w hl hcl hp hcp hll hlc hpi)
  have HL := Lib.hid hl
  have HP := Lib.hid hp
  have hinv0 := replB_inv (l := l) (p := p)
  obtain ⟨⟨M, k0, e0⟩, hM⟩ : ∃ q, replB l p = q := ⟨_, rfl⟩
  unfold needB
  rw [hM] at HR hinv0 ⊢
  dsimp only at hinv0 ⊢
  clear hl hp hpi hlc hM
  by_cases hE : e0 = 0
  · subst hE
    obtain ⟨_, hp20, all, hrep, _, happ⟩ := hinv0 rfl
    have hlen := hrep.len
    have HRep := Lib.hid hrep
    have hMl : M.length = p.length := by have := congrArg List.length happ; rw [List.length_append] at this; omega
    rw [if_neg (fun e => e rfl), happ]
    have Happ := Lib.hid happ
    obtain ⟨F, hF⟩ : ∃ F, firstE all = F := ⟨_, rfl⟩
    rw [hF]
    have HFe := Lib.hid hF
    obtain ⟨n, hn⟩ : ∃ n, l.length + p.length = n := ⟨_, rfl⟩
    rw [hn]
    have Hn := Lib.hid hn
    clear hF hn
    have hlM : l.length + M.length ≤ 100000000 := by omega
    clear hinv0 hrep happ hMl
    go_enter Try.func41, Try.ntmps41
    go_wp2_with fail
    refine HR.out.mono ?_
    rintro e w1 ⟨A1, c1, rfl, hc1, hC1, hb1⟩
    have HC1 := Lib.hid hC1
    have HB1 := Lib.hid hb1
    clear HR hC1 hb1
    go_wp2_with fail
    refine (clone_cls (HL.out.below HB1.out) (by omega)).mono ?_
    rintro e w2 ⟨A2, c2, rfl, hm2, hb2⟩
    obtain ⟨A3, n3, c3, w3, hrun, hn3, hm3, hg3, ho3⟩ := append_own (c := c1) (S := Any) (S' := fun k => k < w1.heap.size) Try.underlying34 infoC rfl (by decide) (by decide) (hm2.mono (fun _ _ => trivial)) (((HC1.out.bound).mono (fun k hk => hk.2)).below hb2) (fun k hk => ⟨trivial, fun e => by have := (hm2.base_le e).1; omega⟩) hlM hb2.size
    have hB3 : Below w.heap.size w w3 := (HB1.out.trans (hb2.mono HB1.out.size)).trans ((Chg.grown hg3 (fun k e => .inl e) (T := fun k => (Value.slice A2 l.length c2).ownBlock = some k)).below (Nat.le_trans HB1.out.size hb2.size) (fun k e => Nat.le_trans HB1.out.size (hm2.base_le e).1))
    rw [Happ.out] at hn3 hm3
    subst hn3
    have HB3 := Lib.hid hB3
    have HRun := Lib.hid hrun
    have hF3 := first_calls hm3.read.2.2 hm3.read.2.1
    rw [HFe.out] at hF3
    have HF := Lib.hid hF3
    have Hlen := Lib.hid hlen
    clear hm2 hb2 hrun hm3 hg3 ho3 hB3 HB1 HC1 hlen hF3
    go_wp2_with (at_builtin; refine G.wpList_append_run rfl _ _ _ rfl _ _ rfl rfl _ _ HRun.out ?_)
    with_reducible refine HF.out.mono ?_
    rintro e w4 ⟨rfl, hb4⟩
    have HB4 := Lib.hid (HB3.out.trans (hb4.mono HB3.out.size))
    clear hb4 HRun HF HB3
    cases F with
    | none =>
      go_wp2
      go_ret2
      exact ⟨rfl, HB4.out⟩
    | some f =>
      have hfl := first_lt HFe.out
      have hfn : f < l.length + p.length := by rw [← Hlen.out]; exact hfl
      have hn := Hn.out
      have hw : IntKind.i64.wrap ((l.length : Int) + (p.length : Int)) = (n : Int) := by rw [IntKind.wrap_i64]; omega
      have hlm : l.length ≤ 9223372036854775807 := by omega
      have hpm : p.length ≤ 9223372036854775807 := by omega
      have hf0 : ¬ (f : Int) < 0 := by omega
      have hfi : (f : Int) < (n : Int) := by omega
      have hff : (0 : Int) ≤ (f : Int) := by omega
      have hfn' : f < n := by omega
      have hmk := run_make_row' (P := Try.prog) 28 4 (.bool false) 1 Try.underlying28 infoB rfl .i64 .i64 n (by omega) (by omega) w4
      have hrow := World.rowIs_made w4 (.bool false) n 4
      have hb5 : Below w.heap.size w (w4.alloc (.cells (madeCells #[.bool false] n) 4)) := HB4.out.alloc HB4.out.size _
      generalize w4.alloc (.cells (madeCells #[.bool false] n) 4) = w5 at hmk hrow hb5
      have hg0 := HB4.out.size
      generalize w4.heap.size = g at hmk hrow hg0
      have hr6 := row_set (need := List.replicate n false) (i := f) (hrow.congr (fun i hi => by simp [List.getD_eq_getElem?_getD, List.getElem?_replicate, hi])) (by simp) hfn'
      have hc5 := hrow.cell hfn'
      have hz5 := hrow.frozen f
      have hb6 : Below w.heap.size w (w5.setCell ⟨g, f, none⟩ (.bool true)) := hb5.setCell hg0 _
      have HR6 := Lib.hid hr6
      have HB6 := Lib.hid hb6
      have Hfn := Lib.hid hfn'
      clear hrow hb5 hr6 hb6 hfl hfn hn hfn' HB4
      go_upto_region 10 with fail
      clear hmk hc5 hz5 hw hf0 hfi hff
      go_loopg [11] (f + 1) (fun gg v wr => ∃ (i : Int) (need : List Bool), v = .int .i64 i ∧ -1 ≤ i ∧ i < (n : Int) ∧ (i + 1 - (l.length : Int)).toNat ≤ gg ∧ Hid (need.length = n) ∧ Hid (markB p l.length (i + 1 - (l.length : Int)).toNat need = markB p l.length (f + 1 - l.length) ((List.replicate n false).set f true)) ∧ Hid (wr.rowIs g 4 n (fun j => .bool (need.getD j false))) ∧ Hid (Below w.heap.size w wr))
      case atStart => exact ⟨f, _, rfl, by omega, by have := Hfn.out; omega, by omega, Lib.hid (by simp), Lib.hid (by rw [show ((f : Int) + 1 - (l.length : Int)).toNat = f + 1 - l.length by omega]), HR6, HB6⟩
      case round =>
        obtain ⟨i, need, rfl, hi1, hi2, hgg, HNl, HMk, HRw, HBw⟩ := hrel
        have hnn := Hn.out
        by_cases hge : (l.length : Int) ≤ i
        · obtain ⟨m, rfl⟩ : ∃ m : Nat, i = (m : Int) := ⟨i.toNat, by omega⟩
          have hml : l.length ≤ m := by omega
          have hmn : m < n := by omega
          have hj : m - l.length < p.length := by omega
          have hsub : IntKind.i64.wrap ((m : Int) - (l.length : Int)) = ((m - l.length : Nat) : Int) := by rw [IntKind.wrap_i64]; omega
          have hdec : IntKind.i64.wrap ((m : Int) - 1) = (m : Int) - 1 := by rw [IntKind.wrap_i64]; omega
          obtain ⟨a, b, st, es, ha, hb⟩ := rep_step HRep.out (m - l.length) hj
          obtain ⟨bp, op, rfl, hbp, p0, p1, p2⟩ := step_at (HP.out.below HBw.out) (m - l.length) hj
          rw [es] at p0 p1 p2
          dsimp only at p0 p1 p2
          have hmk := HMk.out
          rw [show ((m : Int) + 1 - (l.length : Int)).toNat = (m - l.length) + 1 by omega, markB, List.getElem?_eq_getElem hj, es, show l.length + (m - l.length) = m by omega] at hmk
          simp only [Int.toNat_natCast] at hmk
          have q := HRw.out.cell hmn
          have hrow := HRw.out.alloc (.cells #[.int .i64 (a : Int), .int .i64 (b : Int), .int .i64 st] 55)
          have hbx : Below w.heap.size w (wr.alloc (.cells #[.int .i64 (a : Int), .int .i64 (b : Int), .int .i64 st] 55)) := HBw.out.alloc HBw.out.size _
          have q2 := hrow.cell hmn
          have hne : wr.heap.size ≠ g := Nat.ne_of_gt HRw.out.lt
          have hne2 : g ≠ wr.heap.size := fun e => hne e.symm
          have hnext : ((m : Int) - 1 + 1 - (l.length : Int)).toNat = m - l.length := by omega
          have hnj : ((m - l.length : Nat) : Int) < (p.length : Int) := by omega
          have hnj0 : (0 : Int) ≤ ((m - l.length : Nat) : Int) := by omega
          have hmi : (m : Int) < (n : Int) := by omega
          have hmi0 : (0 : Int) ≤ (m : Int) := by omega
          have hgl := hrow.lt
          have hge2 : (m : Int) ≥ (l.length : Int) := hge
          generalize hjj : m - l.length = j at *
          cases hd : need.getD m false with
          | false =>
            rw [hd] at hmk q q2
            have HM2 : Hid (markB p l.length ((m : Int) - 1 + 1 - (l.length : Int)).toNat need = markB p l.length (f + 1 - l.length) ((List.replicate n false).set f true)) := Lib.hid (by rw [hnext]; simpa using hmk)
            have HRw2 := Lib.hid hrow
            have HBw2 := Lib.hid hbx
            have Hge := Lib.hid hge
            clear hmk hrow hbx hd HMk HRw HBw es ha hb hjj hnn hml hmn
            go_upto_region 13 with fail
            go_wp2
            go_roundg ((m : Int) - l.length).toNat
            case measure => omega
            case rel => exact ⟨(m : Int) - 1, need, by go_num, by omega, by omega, by omega, HNl, HM2, HRw2, HBw2⟩
          | true =>
            rw [hd] at hmk q q2
            have HM2 : Hid (markB p l.length ((m : Int) - 1 + 1 - (l.length : Int)).toNat ((need.set a true).set b true) = markB p l.length (f + 1 - l.length) ((List.replicate n false).set f true)) := Lib.hid (by rw [hnext]; simpa using hmk)
            have Hge := Lib.hid hge
            have han : a < n := by omega
            have hbn : b < n := by omega
            have hai : (a : Int) < (n : Int) := by omega
            have hbi : (b : Int) < (n : Int) := by omega
            have hai0 : (0 : Int) ≤ (a : Int) := by omega
            have hbi0 : (0 : Int) ≤ (b : Int) := by omega
            have HNl2 : Hid (((need.set a true).set b true).length = n) := Lib.hid (by simp [HNl.out])
            have c0 : (wr.alloc (.cells #[.int .i64 (a : Int), .int .i64 (b : Int), .int .i64 st] 55)).cell? ⟨wr.heap.size, 0, none⟩ = some (.int .i64 (a : Int)) := by simp only [World.cell?, alloc_new]; rfl
            have c1 : (wr.alloc (.cells #[.int .i64 (a : Int), .int .i64 (b : Int), .int .i64 st] 55)).cell? ⟨wr.heap.size, 1, none⟩ = some (.int .i64 (b : Int)) := by simp only [World.cell?, alloc_new]; rfl
            have ca := hrow.cell han
            have cb := hrow.cell hbn
            have fa := hrow.frozen a
            have fb := hrow.frozen b
            go_upto_region 14 with fail
            generalize hz : wr.alloc (.cells #[.int .i64 (a : Int), .int .i64 (b : Int), .int .i64 st] 55) = wz at c0 c1 ca cb fa fb hrow hbx ⊢
            have HAB := Lib.hid (row_set (row_set (W := wz.drew) hrow HNl.out han) (by rw [List.length_set]; exact HNl.out) hbn)
            have hba := row_set (row_set (W := wz.drew) hrow HNl.out hbn) (by rw [List.length_set]; exact HNl.out) han
            have BAB := Lib.hid (((below_drewN hbx 1).setCell (p := ⟨g, a, none⟩) hg0 (.bool true)).setCell (p := ⟨g, b, none⟩) hg0 (.bool true))
            have BBA := Lib.hid (((below_drewN hbx 1).setCell (p := ⟨g, b, none⟩) hg0 (.bool true)).setCell (p := ⟨g, a, none⟩) hg0 (.bool true))
            by_cases hab : a = b
            · subst hab
              have HBA := Lib.hid hba
              clear hmk hrow hbx hd HMk HRw HBw es ha hb hjj hnn hml hmn hz p0 p1 p2 q q2 hba
              go_region
              all_goals
                go_wp2
                go_roundg ((m : Int) - l.length).toNat
                case measure => omega
                case rel => first
                  | exact ⟨(m : Int) - 1, (need.set a true).set a true, by go_num, by omega, by omega, by omega, HNl2, HM2, HAB, BAB⟩
                  | exact ⟨(m : Int) - 1, (need.set a true).set a true, by go_num, by omega, by omega, by omega, HNl2, HM2, HBA, BBA⟩
            · have hba2 : b ≠ a := fun e => hab e.symm
              rw [List.set_comm true true hba2] at hba
              have HBA := Lib.hid hba
              clear hmk hrow hbx hd HMk HRw HBw es ha hb hjj hnn hml hmn hz p0 p1 p2 q q2 hba
              go_region
              all_goals
                go_wp2
                go_roundg ((m : Int) - l.length).toNat
                case measure => omega
                case rel => first
                  | exact ⟨(m : Int) - 1, (need.set a true).set b true, by go_num, by omega, by omega, by omega, HNl2, HM2, HAB, BAB⟩
                  | exact ⟨(m : Int) - 1, (need.set a true).set b true, by go_num, by omega, by omega, by omega, HNl2, HM2, HBA, BBA⟩
        · have hmk := HMk.out
          rw [show (i + 1 - (l.length : Int)).toNat = 0 by omega, markB] at hmk
          have hge2 : ¬ i ≥ (l.length : Int) := hge
          have hge3 : i < (l.length : Int) := by omega
          have Hmk := Lib.hid hmk
          clear hmk HMk hnn hge
          go_wp2
          go_ret2
          refine ⟨?_, HBw.out⟩
          rw [if_pos rfl]
          dsimp only
          rw [← Hmk.out, HNl.out]
          exact ⟨g, rfl, hg0, HRw.out⟩
  · rw [if_pos hE]
    have gE : (e0 != 0) = true := bne_iff_ne.2 hE
    have HE := Lib.hid hE
    clear hE hinv0
    go_enter Try.func41, Try.ntmps41
    go_wp2_with fail
    refine HR.out.mono ?_
    rintro e w1 ⟨A1, c1, rfl, hc1, hC1, hb1⟩
    have HB1 := Lib.hid hb1
    clear HR hC1 hb1
    go_wp2
    go_ret2
    exact ⟨by rw [if_neg HE.out]; rfl, HB1.out⟩
theorem needed_calls (Sl Sp : Nat → Prop) (Al Ap : Option Addr) (cl cp : Nat) (l : List Cls) (p : List Stp) (w : World) (hl : C kL Sl w Al l) (hcl : l.length ≤ cl) (hp : C kS Sp w Ap p) (hcp : p.length ≤ cp) (hll : l.length ≤ 1000000) (hlc : ∀ c ∈ l, c.length ≤ 1000000000) (hpi : ∀ s ∈ p, -9223372036854775808 ≤ s.2.2 ∧ s.2.2 ≤ 9223372036854775807) :
    Calls Try.prog 41 #[.slice Al l.length cl, .slice Ap p.length cp] w (NeedEnd w (needB l p)) := needed_calls2 Sl Sp Al Ap cl cp l p w hl hcl hp hcp hll (.inr hlc) hpi
end Go.Proofs.Ytggfjfmgclcnlaa.Zb
