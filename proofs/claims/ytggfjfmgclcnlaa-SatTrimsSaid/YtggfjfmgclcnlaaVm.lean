/- Walks: Steps, Equal of steps; what the reference says of values (abs, holds, Hold). -/
import Derived.Test.YtggfjfmgclcnlaaVl
import Derived.BigQuiet
namespace Go.Proofs.Ytggfjfmgclcnlaa.Zb
open Go Go.RowKit Go.Shelf Go.Proofs.Ytggfjfmgclcnlaa.K Go.Proofs.Ytggfjfmgclcnlaa.G Go.Proofs.Ytggfjfmgclcnlaa.Z
set_option linter.unusedSimpArgs false
set_option linter.unusedVariables false

theorem abs_calls (x : Int) (w : World) (h : -1000000000 ≤ x) (h2 : x ≤ 1000000000) : Calls Try.prog 33 #[.int .i64 x] w fun e w' => e = .returned (.int .i64 ((x.natAbs : Nat) : Int)) ∧ w = w' := by
  by_cases hx : x < 0
  · rw [show ((x.natAbs : Nat) : Int) = -x by omega]
    go_enter Try.func33, Try.ntmps33
    go_wp2
    go_ret
    exact ⟨rfl, rfl⟩
  · rw [show ((x.natAbs : Nat) : Int) = x by omega]
    go_enter Try.func33, Try.ntmps33
    go_wp2
    go_ret
    exact ⟨rfl, rfl⟩
set_option maxRecDepth 100000 in
set_option maxHeartbeats 4000000 in
theorem rholds_calls {S S' : Nat → Prop} {A B : Option Addr} {ca cb : Nat} {c : List Int} {v : List Bool} {w : World} (hc : C kI S w A c) (hv : C G.bool S' w B v) (hlit : ∀ x ∈ c, -1000000000 ≤ x ∧ x ≤ 1000000000) :
    Calls Try.prog 37 #[.slice A c.length ca, .slice B v.length cb] w fun e w' => e = .returned (.bool (holdC v c)) ∧ ∃ k, w' = w.drewN k := by
  have hlc : c.length ≤ 9223372036854775807 := by have := hc.len; unfold maxLen at this; omega
  have hlv : v.length ≤ 9223372036854775807 := by have := hv.len; unfold maxLen at this; omega
  have HC := Lib.hid hc
  have HV := Lib.hid hv
  have HL := Lib.hid hlit
  have HR : Hid ((c.drop 0).any (hlB v) = holdC v c) := Lib.hid rfl
  generalize holdC v c = R at HR ⊢
  clear hc hv hlit
  go_enter Try.func37, Try.ntmps37
  go_wp2_with fail
  go_loopg [5] c.length (fun gg v5 wr => ∃ i : Nat, v5 = .int .i64 i ∧ i ≤ c.length ∧ c.length - i ≤ gg ∧ Hid ((c.drop i).any (hlB v) = R) ∧ Hid (∃ k, wr = w.drewN k))
  case atStart => exact ⟨0, rfl, by omega, by omega, HR, Lib.hid ⟨0, rfl⟩⟩
  case round =>
    clear HR
    obtain ⟨i, rfl, hi, hg, HR, HD⟩ := hrel
    by_cases hlt : i < c.length
    · have hltz : (i : Int) < (c.length : Int) := by omega
      have hi0 : (0 : Int) ≤ (i : Int) := by omega
      have Hlt := Lib.hid hlt
      obtain ⟨k, rfl⟩ := HD.out
      obtain ⟨b1, o1, rfl, hb1, q1⟩ := int_at HC.out i hlt
      have p1 : (w.drewN k).cell? ⟨b1, o1 + i, none⟩ = some (.int .i64 (c[i]'hlt)) := q1
      have hx := HL.out _ (List.getElem_mem hlt)
      have hr := HR.out
      rw [List.drop_eq_getElem_cons hlt, List.any_cons] at hr
      generalize c[i]'hlt = x at *
      have HAb := Lib.hid (fun W => abs_calls x W hx.1 hx.2)
      obtain ⟨a, ha⟩ : ∃ a : Nat, x.natAbs = a := ⟨_, rfl⟩
      rw [ha] at HAb
      unfold hlB at hr
      rw [ha] at hr
      have a0 : (0 : Int) ≤ (a : Int) := by omega
      clear q1 HR HD hlt ha
      generalize hw : w.drewN k = wr at *
      have HW : Hid (∃ k, wr = w.drewN k) := Lib.hid ⟨k, hw.symm⟩
      by_cases hav : a < v.length
      · have g1 : (a : Int) < (v.length : Int) := by omega
        have g2 : decide ((a : Int) < (v.length : Int)) = true := decide_eq_true g1
        have g3 : a < v.length := hav
        obtain ⟨b2, o2, rfl, hb2, q2⟩ := bool_at HV.out a hav
        have p2 : wr.cell? ⟨b2, o2 + a, none⟩ = some (.bool (v[a]'hav)) := by rw [← hw]; exact q2
        rw [List.getElem?_eq_getElem hav] at hr
        dsimp only at hr
        generalize v[a]'hav = y at *
        clear q2 hw hav
        by_cases hpos : 0 < x
        · have h1 : decide (x > 0) = true := decide_eq_true hpos
          have h2 : decide ((0 : Int) < x) = true := decide_eq_true hpos
          have h3 : x > 0 := hpos
          rw [h2] at hr
          cases y with
          | true =>
            have HR : Hid (true = R) := Lib.hid hr
            clear hr
            go_upto_region 5 with (refine (HAb.out _).mono ?_; rintro e w1 ⟨rfl, rfl⟩)
            go_quiet (fail)
            go_wp2
            go_ret
            exact ⟨by rw [← HR.out]; rfl, drewN_more HW.out _⟩
          | false =>
            have HR : Hid ((c.drop (i + 1)).any (hlB v) = R) := Lib.hid hr
            clear hr
            go_upto_region 5 with (refine (HAb.out _).mono ?_; rintro e w1 ⟨rfl, rfl⟩)
            go_quiet (fail)
            go_wp2
            go_roundg (c.length - (i + 1))
            case measure => have := Hlt.out; omega
            case rel => exact ⟨i + 1, by go_num, Hlt.out, Nat.le_refl _, HR, Lib.hid (drewN_more HW.out _)⟩
        · have h1 : decide (x > 0) = false := decide_eq_false hpos
          have h2 : decide ((0 : Int) < x) = false := decide_eq_false hpos
          have h3 : ¬ x > 0 := hpos
          rw [h2] at hr
          cases y with
          | false =>
            have HR : Hid (true = R) := Lib.hid hr
            clear hr
            go_upto_region 5 with (refine (HAb.out _).mono ?_; rintro e w1 ⟨rfl, rfl⟩)
            go_quiet (fail)
            go_wp2
            go_ret
            exact ⟨by rw [← HR.out]; rfl, drewN_more HW.out _⟩
          | true =>
            have HR : Hid ((c.drop (i + 1)).any (hlB v) = R) := Lib.hid hr
            clear hr
            go_upto_region 5 with (refine (HAb.out _).mono ?_; rintro e w1 ⟨rfl, rfl⟩)
            go_quiet (fail)
            go_wp2
            go_roundg (c.length - (i + 1))
            case measure => have := Hlt.out; omega
            case rel => exact ⟨i + 1, by go_num, Hlt.out, Nat.le_refl _, HR, Lib.hid (drewN_more HW.out _)⟩
      · have g1 : ¬ (a : Int) < (v.length : Int) := by omega
        have g2 : decide ((a : Int) < (v.length : Int)) = false := decide_eq_false g1
        have g3 : ¬ a < v.length := hav
        rw [List.getElem?_eq_none (by omega)] at hr
        have HR : Hid ((c.drop (i + 1)).any (hlB v) = R) := Lib.hid hr
        clear hr hw hav
        go_upto_region 5 with (refine (HAb.out _).mono ?_; rintro e w1 ⟨rfl, rfl⟩)
        go_quiet (fail)
        go_wp2
        go_roundg (c.length - (i + 1))
        case measure => have := Hlt.out; omega
        case rel => exact ⟨i + 1, by go_num, Hlt.out, Nat.le_refl _, HR, Lib.hid (drewN_more HW.out _)⟩
    · have hltz : ¬ (i : Int) < (c.length : Int) := by omega
      have hr := HR.out
      rw [List.drop_eq_nil_of_le (by omega)] at hr
      have HR : Hid (false = R) := Lib.hid hr
      clear hr
      go_wp2
      go_ret
      exact ⟨by rw [← HR.out]; rfl, HD.out⟩
set_option maxRecDepth 100000 in
set_option maxHeartbeats 4000000 in
theorem rhold_calls {S S' : Nat → Prop} {A B : Option Addr} {ca cb : Nat} {l : List Cls} {v : List Bool} {w : World} (hl : C kL S w A l) (hv : C G.bool S' w B v) (hlit : ∀ c ∈ l, ∀ x ∈ c, -1000000000 ≤ x ∧ x ≤ 1000000000) :
    Calls Try.prog 15 #[.slice A l.length ca, .slice B v.length cb] w fun e w' => e = .returned (.bool (holdL v l)) ∧ ∃ k, w' = w.drewN k := by
  have hll : l.length ≤ 9223372036854775807 := by have := hl.len; unfold maxLen at this; omega
  have HC := Lib.hid hl
  have HV := Lib.hid hv
  have HL := Lib.hid hlit
  have HR : Hid ((l.drop 0).all (holdC v) = holdL v l) := Lib.hid rfl
  generalize holdL v l = R at HR ⊢
  clear hl hv hlit
  go_enter Try.func15, Try.ntmps15
  go_wp2_with fail
  go_loopg [5] l.length (fun gg v5 wr => ∃ i : Nat, v5 = .int .i64 i ∧ i ≤ l.length ∧ l.length - i ≤ gg ∧ Hid ((l.drop i).all (holdC v) = R) ∧ Hid (∃ k, wr = w.drewN k))
  case atStart => exact ⟨0, rfl, by omega, by omega, HR, Lib.hid ⟨0, rfl⟩⟩
  case round =>
    clear HR
    obtain ⟨i, rfl, hi, hg, HR, HD⟩ := hrel
    by_cases hlt : i < l.length
    · have hltz : (i : Int) < (l.length : Int) := by omega
      have hi0 : (0 : Int) ≤ (i : Int) := by omega
      have Hlt := Lib.hid hlt
      obtain ⟨k, rfl⟩ := HD.out
      obtain ⟨b6, o6, A6, c6, rfl, hb6, q6, hl6, hC6⟩ := cls_at HC.out i hlt
      have p6 : (w.drewN k).cell? ⟨b6, o6 + i, none⟩ = some (.slice A6 (l[i]'hlt).length c6) := q6
      have hx := HL.out _ (List.getElem_mem hlt)
      have hr := HR.out
      rw [List.drop_eq_getElem_cons hlt, List.all_cons] at hr
      have hb : Below w.heap.size w (w.drewN k) := ⟨rfl, rfl, rfl, Nat.le_refl _, fun _ _ => rfl⟩
      have HHo := Lib.hid (rholds_calls (ca := c6) (cb := cb) (hC6.below hb) (HV.out.below hb) hx)
      generalize l[i]'hlt = c at *
      clear q6 HR HD hlt hx hb hC6
      generalize hw : w.drewN k = wr at *
      have HW : Hid (∃ k, wr = w.drewN k) := Lib.hid ⟨k, hw.symm⟩
      clear hw
      cases hb : holdC v c with
      | true =>
        rw [hb] at HHo hr
        have HR : Hid ((l.drop (i + 1)).all (holdC v) = R) := Lib.hid hr
        clear hr hb
        go_wp2_with fail
        refine HHo.out.mono ?_
        rintro e w1 ⟨rfl, k1, rfl⟩
        have HW1 := Lib.hid (drewN_more HW.out k1)
        go_wp2
        go_roundg (l.length - (i + 1))
        case measure => have := Hlt.out; omega
        case rel => exact ⟨i + 1, by go_num, Hlt.out, Nat.le_refl _, HR, HW1⟩
      | false =>
        rw [hb] at HHo hr
        have HR : Hid (false = R) := Lib.hid hr
        clear hr hb
        go_wp2_with fail
        refine HHo.out.mono ?_
        rintro e w1 ⟨rfl, k1, rfl⟩
        have HW1 := Lib.hid (drewN_more HW.out k1)
        go_wp2
        go_ret
        exact ⟨by rw [← HR.out]; rfl, HW1.out⟩
    · have hltz : ¬ (i : Int) < (l.length : Int) := by omega
      have hr := HR.out
      rw [List.drop_eq_nil_of_le (by omega)] at hr
      have HR : Hid (true = R) := Lib.hid hr
      clear hr
      go_wp2
      go_ret
      exact ⟨by rw [← HR.out]; rfl, HD.out⟩
set_option maxRecDepth 100000 in
set_option maxHeartbeats 2000000 in
theorem steps_calls {S : Nat → Prop} {A : Option Addr} {cl : Nat} {l : List Stp} {w : World} (hC : C kS S w A l) (hcl : l.length ≤ cl) (hl : l.length ≤ 1000000) :
    Calls Try.prog 24 #[.slice A l.length cl] w fun e w' => ∃ A' c', e = .returned (.slice A' l.length c') ∧ Mine kS w.heap.size NoB w' (.slice A' l.length c') l ∧ Below w.heap.size w w' := by
  have HC := Lib.hid hC
  have hlm : l.length ≤ 9223372036854775807 := by omega
  clear hC
  go_enter Try.func24, Try.ntmps24
  go_wp2_with fail
  have HX0 : Hid (Mine kS w.heap.size NoB w (.slice none 0 0) (l.take 0) ∧ Below w.heap.size w w) := Lib.hid ⟨by rw [List.take_zero]; exact Mine.nil .., Below.refl _ _⟩
  go_loopg [3, 8] l.length (fun gg v3 v8 wr => ∃ (i : Nat) (A2 : Option Addr) (c2 : Nat), v3 = .slice A2 i c2 ∧ v8 = .int .i64 i ∧ i ≤ l.length ∧ l.length - i ≤ gg ∧ Hid (Mine kS w.heap.size NoB wr (.slice A2 i c2) (l.take i) ∧ Below w.heap.size w wr))
  case atStart => exact ⟨0, none, 0, rfl, rfl, by omega, by omega, HX0⟩
  case round =>
    clear HX0
    obtain ⟨i, A2, c2, rfl, rfl, hi, hg, HX⟩ := hrel
    by_cases hlt : i < l.length
    · have hltz : (i : Int) < (l.length : Int) := by omega
      have hi0 : (0 : Int) ≤ (i : Int) := by omega
      have Hlt := Lib.hid hlt
      obtain ⟨b6, o6, rfl, hb6, p0, p1, p2⟩ := step_at (HC.out.below HX.out.2) i hlt
      obtain ⟨hm0, hbl⟩ := HX.out
      have htk : l.take i ++ [l[i]'hlt] = l.take (i + 1) := List.take_append_getElem hlt
      generalize l[i]'hlt = s at *
      obtain ⟨x, y, z⟩ := s
      dsimp only at p0 p1 p2
      obtain ⟨W1, hW1⟩ : ∃ W1, wr.alloc (.cells #[.int .i64 x, .int .i64 y, .int .i64 z] 67) = W1 := ⟨_, rfl⟩
      have hb1 : Below wr.heap.size wr W1 := by rw [← hW1]; exact (Below.refl _ _).alloc (Nat.le_refl _) _
      have hb2 : Below W1.heap.size W1 (W1.alloc (.cells #[.int .i64 x, .int .i64 y, .int .i64 z] 55)) := (Below.refl _ _).alloc (Nat.le_refl _) _
      have hb12 := hb1.trans (hb2.mono hb1.size)
      obtain ⟨A', n', c', w', hrun, hn', hm, hgr, ho⟩ := append_own (c := 1) (S := Any) (S' := fun k => k = W1.heap.size) (ys := [(x, y, z)]) (A := some ⟨W1.heap.size, 0, none⟩) Try.underlying29 infoS rfl (by decide) (by decide) ((hm0.below hb12).mono (fun _ h => h.elim)) (one_stp (alloc_new W1 _) rfl)
        (fun k hk => ⟨trivial, fun e => by have := (hm0.base_le e).2; have := hb1.size; omega⟩) (by rw [List.length_take]; simp; omega) (Nat.le_trans hbl.size hb12.size)
      have hbw : Below w.heap.size w w' := hbl.trans ((hb12.mono hbl.size).trans ((Chg.grown hgr (fun k e => .inl e) (T := fun k => (Value.slice A2 i c2).ownBlock = some k)).below (Nat.le_trans hbl.size hb12.size) (fun k e => (hm0.base_le e).1)))
      rw [htk] at hm hn'
      rw [List.length_take, Nat.min_eq_left Hlt.out] at hn'
      subst hn'
      have HX2 := Lib.hid (And.intro (mine_stp hm) hbw)
      have HRun := Lib.hid hrun
      have d0 : W1.cell? ⟨wr.heap.size, 0, none⟩ = some (.int .i64 x) := by rw [← hW1]; exact cells_at wr #[.int .i64 x, .int .i64 y, .int .i64 z] _ _ 0 rfl
      have d1 : W1.cell? ⟨wr.heap.size, 1, none⟩ = some (.int .i64 y) := by rw [← hW1]; exact cells_at wr #[.int .i64 x, .int .i64 y, .int .i64 z] _ _ 1 rfl
      have d2 : W1.cell? ⟨wr.heap.size, 2, none⟩ = some (.int .i64 z) := by rw [← hW1]; exact cells_at wr #[.int .i64 x, .int .i64 y, .int .i64 z] _ _ 2 rfl
      clear hb1 hb2 hb12 hm0 hbl hrun hm hgr ho hbw HX hlt htk
      go_upto_region 5 with fail
      clear hW1
      go_wp2_with (at_builtin; refine G.wpList_append_run rfl _ _ _ rfl _ _ rfl rfl _ _ HRun.out ?_)
      go_roundg (l.length - (i + 1))
      case measure => have := Hlt.out; omega
      case rel => exact ⟨i + 1, A', c', rfl, by go_num, Hlt.out, Nat.le_refl _, HX2⟩
    · have hltz : ¬ (i : Int) < (l.length : Int) := by omega
      have hie : i = l.length := by omega
      have hfin : Hid (Mine kS w.heap.size NoB wr (.slice A2 l.length c2) l ∧ Below w.heap.size w wr) := Lib.hid (by have := HX.out; rw [hie, List.take_length] at this; exact this)
      subst hie
      clear HX hlt
      go_wp2
      go_ret
      exact ⟨A2, c2, rfl, hfin.out.1, hfin.out.2⟩
set_option maxRecDepth 100000 in
set_option maxHeartbeats 2000000 in
theorem equal_steps {S S' : Nat → Prop} {A B : Option Addr} {ca cb : Nat} {a : List Stp} {w : World} (ha : C kS S w A a) (hb : C kS S' w B a) :
    Calls Try.prog 23 #[.slice A a.length ca, .slice B a.length cb] w fun e w' => e = .returned (.bool true) ∧ ∃ k, w' = w.drewN k := by
  have hla : a.length ≤ 9223372036854775807 := by have := ha.len; unfold maxLen at this; omega
  have HA := Lib.hid ha
  have HB := Lib.hid hb
  clear ha hb
  go_enter Try.func23, Try.ntmps23
  go_wp2_with fail
  go_loopg [13] a.length (fun gg v13 wr => ∃ i : Nat, v13 = .int .i64 i ∧ i ≤ a.length ∧ a.length - i ≤ gg ∧ Hid (∃ k, wr = w.drewN k))
  case atStart => exact ⟨0, rfl, by omega, by omega, Lib.hid ⟨0, rfl⟩⟩
  case round =>
    obtain ⟨i, rfl, hi, hg, HD⟩ := hrel
    by_cases hlt : i < a.length
    · have hltz : (i : Int) < (a.length : Int) := by omega
      have hi0 : (0 : Int) ≤ (i : Int) := by omega
      have Hlt := Lib.hid hlt
      obtain ⟨k, rfl⟩ := HD.out
      obtain ⟨b1, o1, rfl, hb1, q0, q1, q2⟩ := step_at HA.out i hlt
      obtain ⟨b2, o2, rfl, hb2, r0, r1, r2⟩ := step_at HB.out i hlt
      generalize a[i]'hlt = s at *
      obtain ⟨x, y, z⟩ := s
      dsimp only at q0 q1 q2 r0 r1 r2
      have p0 : (w.drewN k).cell? ⟨b1, o1 + i * 3, none⟩ = some (.int .i64 x) := q0
      have p1 : (w.drewN k).cell? ⟨b1, o1 + i * 3 + 1, none⟩ = some (.int .i64 y) := q1
      have p2 : (w.drewN k).cell? ⟨b1, o1 + i * 3 + 2, none⟩ = some (.int .i64 z) := q2
      have s0 : (w.drewN k).cell? ⟨b2, o2 + i * 3, none⟩ = some (.int .i64 x) := r0
      have s1 : (w.drewN k).cell? ⟨b2, o2 + i * 3 + 1, none⟩ = some (.int .i64 y) := r1
      have s2 : (w.drewN k).cell? ⟨b2, o2 + i * 3 + 2, none⟩ = some (.int .i64 z) := r2
      clear q0 q1 q2 r0 r1 r2 HD hlt
      generalize hw : w.drewN k = wr at *
      have HW : Hid (∃ k, wr = w.drewN k) := Lib.hid ⟨k, hw.symm⟩
      clear hw
      go_upto_region 6 with fail
      go_quiet (fail)
      go_wp2
      go_roundg (a.length - (i + 1))
      case measure => have := Hlt.out; omega
      case rel => exact ⟨i + 1, by go_num, Hlt.out, Nat.le_refl _, Lib.hid (drewN_more HW.out _)⟩
    · have hltz : ¬ (i : Int) < (a.length : Int) := by omega
      go_wp2
      go_ret
      exact ⟨rfl, HD.out⟩
end Go.Proofs.Ytggfjfmgclcnlaa.Zb
