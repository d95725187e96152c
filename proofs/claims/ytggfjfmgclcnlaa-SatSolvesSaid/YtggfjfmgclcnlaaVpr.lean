/- What several laws of this chapter lean on: right clauses, the lengths, Hold of the reference, the proof that Solve finds, rows of Booleans. -/
import Derived.Test.YtggfjfmgclcnlaaVk
import Derived.BigQuiet
namespace Go.Proofs.Ytggfjfmgclcnlaa.Zb
open Go Go.RowKit Go.Shelf Go.Proofs.Ytggfjfmgclcnlaa.K Go.Proofs.Ytggfjfmgclcnlaa.G Go.Proofs.Ytggfjfmgclcnlaa.Z
set_option linter.unusedSimpArgs false
set_option linter.unusedVariables false

theorem solve_right {l : List Cls} {fuel : Int} (h : (solveB l fuel).err = 0) : checkL l = 0 := by
  unfold solveB at h
  by_cases h0 : checkL l = 0
  · exact h0
  · rw [if_pos h0] at h
    exact h
theorem small_lens {l : List Cls} {np most : Nat} (h : smallB l np most = true) : l.length ≤ most ∧ ∀ c ∈ l, c.length ≤ 70 := by
  unfold smallB at h
  simp only [Bool.and_eq_true, decide_eq_true_eq, Bool.not_eq_true'] at h
  refine ⟨h.1.1, fun c hc => ?_⟩
  have := List.any_eq_false.1 h.2 c hc
  unfold longC at this
  simp only [decide_eq_true_eq] at this
  omega
theorem abs_calls (x : Int) (w : World) (h : -1000000000 ≤ x) (h2 : x ≤ 1000000000) : Calls Try.prog 33 #[.int .i64 x] w fun e w' => e = .returned (.int .i64 ((x.natAbs : Nat) : Int)) ∧ w = w' := by
  by_cases hx : x < 0
  · rw [show ((x.natAbs : Nat) : Int) = -x by omega]
    go_enter Try.func33, Try.ntmps33
    go_wp2
    go_ret
    exact ⟨rfl, rfl⟩
  · rw [show ((x.natAbs : Nat) : Int) = x by omega]
    go_enter Try.func33, Try.ntmps33
    go_wp2
    go_ret
    exact ⟨rfl, rfl⟩
set_option maxRecDepth 100000 in
set_option maxHeartbeats 4000000 in
theorem rholds_calls {S S' : Nat → Prop} {A B : Option Addr} {ca cb : Nat} {c : List Int} {v : List Bool} {w : World} (hc : C kI S w A c) (hv : C G.bool S' w B v) (hlit : ∀ x ∈ c, -1000000000 ≤ x ∧ x ≤ 1000000000) :
    Calls Try.prog 37 #[.slice A c.length ca, .slice B v.length cb] w fun e w' => e = .returned (.bool (holdC v c)) ∧ ∃ k, w' = w.drewN k := by
  have hlc : c.length ≤ 9223372036854775807 := by have := hc.len; unfold maxLen at this; omega
  have hlv : v.length ≤ 9223372036854775807 := by have := hv.len; unfold maxLen at this; omega
  have HC := Lib.hid hc
  have HV := Lib.hid hv
  have HL := Lib.hid hlit
  have HR : Hid ((c.drop 0).any (hlB v) = holdC v c) := Lib.hid rfl
  generalize holdC v c = R at HR ⊢
  clear hc hv hlit
  go_enter Try.func37, Try.ntmps37
  go_wp2_with fail
  go_loopg [5] c.length (fun gg v5 wr => ∃ i : Nat, v5 = .int .i64 i ∧ i ≤ c.length ∧ c.length - i ≤ gg ∧ Hid ((c.drop i).any (hlB v) = R) ∧ Hid (∃ k, wr = w.drewN k))
  case atStart => exact ⟨0, rfl, by omega, by omega, HR, Lib.hid ⟨0, rfl⟩⟩
  case round =>
    clear HR
    obtain ⟨i, rfl, hi, hg, HR, HD⟩ := hrel
    by_cases hlt : i < c.length
    · have hltz : (i : Int) < (c.length : Int) := by omega
      have hi0 : (0 : Int) ≤ (i : Int) := by omega
      have Hlt := Lib.hid hlt
      obtain ⟨k, rfl⟩ := HD.out
      obtain ⟨b1, o1, rfl, hb1, q1⟩ := int_at HC.out i hlt
      have p1 : (w.drewN k).cell? ⟨b1, o1 + i, none⟩ = some (.int .i64 (c[i]'hlt)) := q1
      have hx := HL.out _ (List.getElem_mem hlt)
      have hr := HR.out
      rw [List.drop_eq_getElem_cons hlt, List.any_cons] at hr
      generalize c[i]'hlt = x at *
      have HAb := Lib.hid (fun W => abs_calls x W hx.1 hx.2)
      obtain ⟨a, ha⟩ : ∃ a : Nat, x.natAbs = a := ⟨_, rfl⟩
      rw [ha] at HAb
      unfold hlB at hr
      rw [ha] at hr
      have a0 : (0 : Int) ≤ (a : Int) := by omega
      clear q1 HR HD hlt ha
      generalize hw : w.drewN k = wr at *
      have HW : Hid (∃ k, wr = w.drewN k) := Lib.hid ⟨k, hw.symm⟩
      by_cases hav : a < v.length
      · have g1 : (a : Int) < (v.length : Int) := by omega
        have g2 : decide ((a : Int) < (v.length : Int)) = true := decide_eq_true g1
        have g3 : a < v.length := hav
        obtain ⟨b2, o2, rfl, hb2, q2⟩ := bool_at HV.out a hav
        have p2 : wr.cell? ⟨b2, o2 + a, none⟩ = some (.bool (v[a]'hav)) := by rw [← hw]; exact q2
        rw [List.getElem?_eq_getElem hav] at hr
        dsimp only at hr
        generalize v[a]'hav = y at *
        clear q2 hw hav
        by_cases hpos : 0 < x
        · have h1 : decide (x > 0) = true := decide_eq_true hpos
          have h2 : decide ((0 : Int) < x) = true := decide_eq_true hpos
          have h3 : x > 0 := hpos
          rw [h2] at hr
          cases y with
          | true =>
            have HR : Hid (true = R) := Lib.hid hr
            clear hr
            go_upto_region 5 with (refine (HAb.out _).mono ?_; rintro e w1 ⟨rfl, rfl⟩)
            go_quiet (fail)
            go_wp2
            go_ret
            exact ⟨by rw [← HR.out]; rfl, drewN_more HW.out _⟩
          | false =>
            have HR : Hid ((c.drop (i + 1)).any (hlB v) = R) := Lib.hid hr
            clear hr
            go_upto_region 5 with (refine (HAb.out _).mono ?_; rintro e w1 ⟨rfl, rfl⟩)
            go_quiet (fail)
            go_wp2
            go_roundg (c.length - (i + 1))
            case measure => have := Hlt.out; omega
            case rel => exact ⟨i + 1, by go_num, Hlt.out, Nat.le_refl _, HR, Lib.hid (drewN_more HW.out _)⟩
        · have h1 : decide (x > 0) = false := decide_eq_false hpos
          have h2 : decide ((0 : Int) < x) = false := decide_eq_false hpos
          have h3 : ¬ x > 0 := hpos
          rw [h2] at hr
          cases y with
          | false =>
            have HR : Hid (true = R) := Lib.hid hr
            clear hr
            go_upto_region 5 with (refine (HAb.out _).mono ?_; rintro e w1 ⟨rfl, rfl⟩)
            go_quiet (fail)
            go_wp2
            go_ret
            exact ⟨by rw [← HR.out]; rfl, drewN_more HW.out _⟩
          | true =>
            have HR : Hid ((c.drop (i + 1)).any (hlB v) = R) := Lib.hid hr
            clear hr
            go_upto_region 5 with (refine (HAb.out _).mono ?_; rintro e w1 ⟨rfl, rfl⟩)
            go_quiet (fail)
            go_wp2
            go_roundg (c.length - (i + 1))
            case measure => have := Hlt.out; omega
            case rel => exact ⟨i + 1, by go_num, Hlt.out, Nat.le_refl _, HR, Lib.hid (drewN_more HW.out _)⟩
      · have g1 : ¬ (a : Int) < (v.length : Int) := by omega
        have g2 : decide ((a : Int) < (v.length : Int)) = false := decide_eq_false g1
        have g3 : ¬ a < v.length := hav
        rw [List.getElem?_eq_none (by omega)] at hr
        have HR : Hid ((c.drop (i + 1)).any (hlB v) = R) := Lib.hid hr
        clear hr hw hav
        go_upto_region 5 with (refine (HAb.out _).mono ?_; rintro e w1 ⟨rfl, rfl⟩)
        go_quiet (fail)
        go_wp2
        go_roundg (c.length - (i + 1))
        case measure => have := Hlt.out; omega
        case rel => exact ⟨i + 1, by go_num, Hlt.out, Nat.le_refl _, HR, Lib.hid (drewN_more HW.out _)⟩
    · have hltz : ¬ (i : Int) < (c.length : Int) := by omega
      have hr := HR.out
      rw [List.drop_eq_nil_of_le (by omega)] at hr
      have HR : Hid (false = R) := Lib.hid hr
      clear hr
      go_wp2
      go_ret
      exact ⟨by rw [← HR.out]; rfl, HD.out⟩
set_option maxRecDepth 100000 in
set_option maxHeartbeats 4000000 in
theorem rhold_calls {S S' : Nat → Prop} {A B : Option Addr} {ca cb : Nat} {l : List Cls} {v : List Bool} {w : World} (hl : C kL S w A l) (hv : C G.bool S' w B v) (hlit : ∀ c ∈ l, ∀ x ∈ c, -1000000000 ≤ x ∧ x ≤ 1000000000) :
    Calls Try.prog 15 #[.slice A l.length ca, .slice B v.length cb] w fun e w' => e = .returned (.bool (holdL v l)) ∧ ∃ k, w' = w.drewN k := by
  have hll : l.length ≤ 9223372036854775807 := by have := hl.len; unfold maxLen at this; omega
  have HC := Lib.hid hl
  have HV := Lib.hid hv
  have HL := Lib.hid hlit
  have HR : Hid ((l.drop 0).all (holdC v) = holdL v l) := Lib.hid rfl
  generalize holdL v l = R at HR ⊢
  clear hl hv hlit
  go_enter Try.func15, Try.ntmps15
  go_wp2_with fail
  go_loopg [5] l.length (fun gg v5 wr => ∃ i : Nat, v5 = .int .i64 i ∧ i ≤ l.length ∧ l.length - i ≤ gg ∧ Hid ((l.drop i).all (holdC v) = R) ∧ Hid (∃ k, wr = w.drewN k))
  case atStart => exact ⟨0, rfl, by omega, by omega, HR, Lib.hid ⟨0, rfl⟩⟩
  case round =>
    clear HR
    obtain ⟨i, rfl, hi, hg, HR, HD⟩ := hrel
    by_cases hlt : i < l.length
    · have hltz : (i : Int) < (l.length : Int) := by omega
      have hi0 : (0 : Int) ≤ (i : Int) := by omega
      have Hlt := Lib.hid hlt
      obtain ⟨k, rfl⟩ := HD.out
      obtain ⟨b6, o6, A6, c6, rfl, hb6, q6, hl6, hC6⟩ := cls_at HC.out i hlt
      have p6 : (w.drewN k).cell? ⟨b6, o6 + i, none⟩ = some (.slice A6 (l[i]'hlt).length c6) := q6
      have hx := HL.out _ (List.getElem_mem hlt)
      have hr := HR.out
      rw [List.drop_eq_getElem_cons hlt, List.all_cons] at hr
      have hb : Below w.heap.size w (w.drewN k) := ⟨rfl, rfl, rfl, Nat.le_refl _, fun _ _ => rfl⟩
      have HHo := Lib.hid (rholds_calls (ca := c6) (cb := cb) (hC6.below hb) (HV.out.below hb) hx)
      generalize l[i]'hlt = c at *
      clear q6 HR HD hlt hx hb hC6
      generalize hw : w.drewN k = wr at *
      have HW : Hid (∃ k, wr = w.drewN k) := Lib.hid ⟨k, hw.symm⟩
      clear hw
      cases hb : holdC v c with
      | true =>
        rw [hb] at HHo hr
        have HR : Hid ((l.drop (i + 1)).all (holdC v) = R) := Lib.hid hr
        clear hr hb
        go_wp2_with fail
        refine HHo.out.mono ?_
        rintro e w1 ⟨rfl, k1, rfl⟩
        have HW1 := Lib.hid (drewN_more HW.out k1)
        go_wp2
        go_roundg (l.length - (i + 1))
        case measure => have := Hlt.out; omega
        case rel => exact ⟨i + 1, by go_num, Hlt.out, Nat.le_refl _, HR, HW1⟩
      | false =>
        rw [hb] at HHo hr
        have HR : Hid (false = R) := Lib.hid hr
        clear hr hb
        go_wp2_with fail
        refine HHo.out.mono ?_
        rintro e w1 ⟨rfl, k1, rfl⟩
        have HW1 := Lib.hid (drewN_more HW.out k1)
        go_wp2
        go_ret
        exact ⟨by rw [← HR.out]; rfl, HW1.out⟩
    · have hltz : ¬ (i : Int) < (l.length : Int) := by omega
      have hr := HR.out
      rw [List.drop_eq_nil_of_le (by omega)] at hr
      have HR : Hid (true = R) := Lib.hid hr
      clear hr
      go_wp2
      go_ret
      exact ⟨by rw [← HR.out]; rfl, HD.out⟩

/-- a proof that Solve finds: it replays, its last clause is empty, and it is its own Trim -/
theorem proof_law {l : List Cls} {fuel : Int} (hf0 : 0 ≤ fuel) (hf1 : fuel ≤ 100000) (h1 : (solveB l fuel).err = 0) (h2 : (solveB l fuel).holds = false) :
    trimB l (solveB l fuel).proof = ((solveB l fuel).proof, 0) ∧ (solveB l fuel).proof.length ≤ 20000 ∧ (∀ s ∈ (solveB l fuel).proof, -9223372036854775808 ≤ s.2.2 ∧ s.2.2 ≤ 9223372036854775807) ∧ ∃ made, replB l (solveB l fuel).proof = (made, 0, 0) ∧ made.length ≤ 20000 ∧ ∀ c, made.getLast? = some c → c = [] := by
  have hck := solve_right h1
  obtain ⟨_, _, _, hn⟩ := solve_law hck hf0 hf1
  obtain ⟨_, _, _, p, made, e1, e2, e3, e4, e5, e6, _⟩ := hn h1 h2
  obtain ⟨_, _, _, _, _, t4, _⟩ := trim_law e2
  rw [e1] at e3 e4 e5 ⊢
  refine ⟨t4, e4, repl_atoms e3 (checkL_ok hck).2, made, ?_, by omega, e6⟩
  rw [replB_ok hck e4 e3, List.drop_left]
theorem made_law {l : List Cls} {p : List Stp} {m : List Cls} {k : Int} (h : replB l p = (m, k, 0)) {v : List Bool} : (∀ c ∈ m, rightC c = true) ∧ (holdL v l = true → holdL v m = true) := by
  obtain ⟨hck, _, all, hR, _, he⟩ := replB_inv (l := l) (p := p) (by rw [h])
  rw [h] at he
  have hr := (checkL_ok hck).2
  refine ⟨fun c hc => hR.right hr c (by rw [← he]; exact List.mem_append_right _ hc), fun hv => ?_⟩
  have := hR.holds hr hv
  rw [← he] at this
  unfold holdL at this ⊢
  rw [List.all_append, Bool.and_eq_true] at this
  exact this.2
/-- a row of Booleans of one's own, of one element -/
theorem bool_one {w : World} {S : Nat → Prop} (x : Bool) : Mine G.bool w.heap.size S (w.alloc (.cells #[.bool x] 4)) (.slice (some ⟨w.heap.size, 0, none⟩) 1 1) [x] := by
  refine ⟨_, 1, rfl, Nat.le_refl _, by decide, .inr ⟨w.heap.size, 0, rfl, Nat.le_refl _, by simp, fun j hj => ?_, fun j y hj => ?_⟩⟩
  · have hj1 : j < 1 := hj
    obtain rfl : j = 0 := by omega
    exact ⟨by rw [cells_at w #[.bool x] 4 _ _ rfl]; rfl, frozen_at w _ _ _ _ rfl⟩
  · cases j with
    | succ j => simp at hj
    | zero =>
      simp only [List.getElem?_cons_zero, Option.some.injEq] at hj
      subst hj
      refine ⟨[.bool x], rfl, fun i u hu => ?_⟩
      cases i with
      | succ i => simp at hu
      | zero =>
        simp only [List.getElem?_cons_zero, Option.some.injEq] at hu
        subst hu
        exact cells_at w #[.bool x] 4 _ _ rfl
theorem bool_push {base : Nat} {W : World} {A : Option Addr} {n c : Nat} {bs : List Bool} (h : Mine G.bool base NoB W (.slice A n c) bs) (hn : bs.length = n) (hb : base ≤ W.heap.size) (hs : n ≤ 1000) (x : Bool) :
    ∃ A' c' w1, (Builtin.append_ #[28, 28] 28 #[.slice A n c, .slice (some ⟨W.heap.size, 0, none⟩) 1 1]).run Try.prog (W.alloc (.cells #[.bool x] 4)) = .ok (.slice A' (n + 1) c') w1 ∧ Mine G.bool base NoB w1 (.slice A' (n + 1) c') (bs ++ [x]) ∧ Below base W w1 := by
  have hwa : Below W.heap.size W (W.alloc (.cells #[.bool x] 4)) := (Below.refl _ _).alloc (Nat.le_refl _) _
  obtain ⟨A', n', c', w1, hrun, hn', hm, hg, ho⟩ := append_own (c := 1) (S := Any) (S' := fun k => k = W.heap.size) Try.underlying28 infoBo rfl (by decide) (by decide) ((h.below hwa).mono (fun _ h => h.elim)) (one_bool (alloc_new W (.cells #[.bool x] 4)) rfl)
    (fun k hk => ⟨trivial, fun e => by have := (h.base_le e).2; omega⟩) (by simp; omega) (Nat.le_trans hb hwa.size)
  rw [List.length_append, hn] at hn'
  have hn2 : n' = n + 1 := hn'
  subst hn2
  exact ⟨A', c', w1, hrun, mine_bool hm, (hwa.mono hb).trans ((Chg.grown hg (fun k e => .inl e) (T := fun k => (Value.slice A n c).ownBlock = some k)).below (Nat.le_trans hb hwa.size) (fun k e => (h.base_le e).1))⟩
theorem replB_few (l : List Cls) (p : List Stp) : (replB l p).1.length ≤ p.length := by
  by_cases h : (replB l p).2.2 = 0
  · obtain ⟨_, _, all, hR, he, _⟩ := replB_inv h
    have h1 := hR.len
    rw [he]
    simp only [List.length_drop]
    omega
  · unfold replB at h ⊢
    by_cases h0 : checkL l ≠ 0
    · rw [if_pos h0]; exact Nat.zero_le _
    · rw [if_neg h0] at h ⊢
      by_cases h1 : 20000 < p.length
      · rw [if_pos h1]; exact Nat.zero_le _
      · rw [if_neg h1] at h ⊢
        split
        · exact Nat.zero_le _
        · rename_i e; rw [e] at h; exact absurd rfl h
theorem lit_small {c : Cls} (h : rightC c = true) : ∀ x ∈ c, -1000000000 ≤ x ∧ x ≤ 1000000000 := fun x hx => by
  have := ((right_iff.1 h).1 x hx).2
  omega
end Go.Proofs.Ytggfjfmgclcnlaa.Zb
