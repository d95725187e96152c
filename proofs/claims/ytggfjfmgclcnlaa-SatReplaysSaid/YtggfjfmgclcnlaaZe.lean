/- Walk of sat.resolvent. -/
import Derived.Test.YtggfjfmgclcnlaaZcd
namespace Go.Proofs.Ytggfjfmgclcnlaa.Zb
open Go Go.RowKit Go.Shelf Go.Proofs.Ytggfjfmgclcnlaa.K Go.Proofs.Ytggfjfmgclcnlaa.G Go.Proofs.Ytggfjfmgclcnlaa.Z
set_option linter.unusedSimpArgs false
set_option linter.unusedVariables false

theorem int_at {S : Nat → Prop} {w : World} {A : Option Addr} {l : List Int} (h : C kI S w A l) (j : Nat) (hj : j < l.length) : ∃ b o, A = some ⟨b, o, none⟩ ∧ b < w.heap.size ∧ w.cell? ⟨b, o + j, none⟩ = some (.int .i64 (l[j]'hj)) := by
  obtain ⟨b, o, cs, e, _, hb, hK, hc⟩ := h.at_ j hj
  have hK' : cs = [.int .i64 (l[j]'hj)] := hK
  subst hK'
  have := hc 0 _ rfl
  have e1 : kI.sz = 1 := rfl
  rw [e1, Nat.mul_one, Nat.add_zero] at this
  exact ⟨b, o, e, hb, this⟩
/-- one number, in a block of its own -/
theorem one_int {S : Nat → Prop} {w : World} {g : Nat} {t : TypeId} {x : Int} (h : w.heap[g]? = some (.cells #[.int .i64 x] t (0, 0))) (hS : S g) : C kI S w (some ⟨g, 0, none⟩) [x] :=
  ⟨by simp [maxLen], fun _ => ⟨g, 0, rfl, hS, (Array.getElem?_eq_some_iff.1 h).1, fun j y hj => by
    cases j with
    | succ j => simp at hj
    | zero =>
      simp only [List.getElem?_cons_zero, Option.some.injEq] at hj
      subst hj
      refine ⟨_, rfl, fun i u hu => ?_⟩
      cases i with
      | succ i => simp at hu
      | zero =>
        simp only [List.getElem?_cons_zero, Option.some.injEq] at hu
        subst hu
        simp [World.cell?, h]⟩⟩
/-- append of numbers -/
theorem append_int {base : Nat} {S' : Nat → Prop} {w : World} {v : Value} {xs ys : List Int} {A : Option Addr} {c : Nat} (h : Mine kI base NoB w v xs) (hC : C kI S' w A ys) (hl : xs.length + ys.length ≤ 100000000) (hbase : base ≤ w.heap.size) :
    ∃ A' n' c' w', (Builtin.append_ #[56, 56] 56 #[v, .slice A ys.length c]).run Try.prog w = .ok (.slice A' n' c') w' ∧ n' = (xs ++ ys).length ∧ Mine kI base NoB w' (.slice A' n' c') (xs ++ ys) ∧ w.grownBy w' v.ownBlock ∧ ∀ k, (Value.slice A' n' c').ownBlock = some k → v.ownBlock = some k ∨ w.heap.size ≤ k := by
  obtain ⟨i0, hi0, hz0, hz1, hz2⟩ := info_parts infoI
  by_cases hy : ys = []
  · subst hy
    obtain ⟨A1, cap, rfl, hle⟩ := h.form
    exact ⟨A1, _, cap, w, append_none w _ _ _ i0 Try.underlying56 hi0 A1 A _ cap c hle, by rw [List.append_nil], by rw [List.append_nil]; exact h, World.grownBy.refl w _, fun k e => .inl e⟩
  · obtain ⟨b, o, rfl, hSb, _, hcc⟩ := hC.2 hy
    have hcs : Cells kI (fun k => NoB k ∧ v.ownBlock ≠ some k) w b o ys := fun j x hj => by
      obtain ⟨cs, hk, hc⟩ := hcc j x hj
      exact ⟨cs, hk, hc⟩
    obtain ⟨v', w', hrun, ho, hg, hb⟩ := h.append (P := Try.prog) (t := 56) (ty := 56) (bytes := 8) (c2 := c) Try.underlying56 hi0 hz0 hz1 hz2 rfl (by decide) rfl hy hcs (by unfold maxLen; omega) (by omega) hbase
    obtain ⟨A', c', ev, _⟩ := ho.form
    subst ev
    refine ⟨A', _, c', w', hrun, rfl, ho, hg, fun k e => ?_⟩
    rcases hb with h1 | h1
    · rw [h1] at e; exact .inl e
    · rw [h1] at e; cases e; exact .inr (Nat.le_refl _)
theorem mine_nob {α : Type} {d : Rd α} {base : Nat} {S : Nat → Prop} {w : World} {v : Value} {xs : List Int} (h : Mine kI base S w v xs) : Mine kI base NoB w v xs := by
  obtain ⟨A, cap, e, h1, h2, h3⟩ := h
  refine ⟨A, cap, e, h1, h2, h3.imp id ?_⟩
  rintro ⟨g, o, e1, e2, e3, e4, e5⟩
  exact ⟨g, o, e1, e2, e3, e4, fun j x hj => by
    obtain ⟨cs, hk, hc⟩ := e5 j x hj
    exact ⟨cs, hk, hc⟩⟩
def ResEnd (w : World) (R : Option Cls) (e : Ending) (w' : World) : Prop :=
  (match R with
    | none => e = .returned (.tuple #[.slice none 0 0, .bool false])
    | some c => ∃ A cp, e = .returned (.tuple #[.slice A c.length cp, .bool true]) ∧ Mine kI w.heap.size NoB w' (.slice A c.length cp) c) ∧ Below w.heap.size w w'
/-- the state of the loop -/
structure RsB (w : World) (vo : Value) (out : List Int) (vp : Value) (ab : List Int) (W : World) : Prop where
  out : Mine kI w.heap.size NoB W vo out
  all : Mine kI w.heap.size NoB W vp ab
  ne : ∀ k, vo.ownBlock = some k → vp.ownBlock ≠ some k
  below : Below w.heap.size w W
theorem RsB.step {w W W' : World} {vo vp : Value} {out ab : List Int} (h : RsB w vo out vp ab W) (hb : Below W.heap.size W W') : RsB w vo out vp ab W' := ⟨h.out.below hb, h.all.below hb, h.ne, h.below.trans (hb.mono h.below.size)⟩
theorem RsB.put {w W W' : World} {vo vp vo' : Value} {out out' ab : List Int} (h : RsB w vo out vp ab W) (hm : Mine kI w.heap.size NoB W' vo' out') (hg : W.grownBy W' vo.ownBlock) (ho : ∀ k, vo'.ownBlock = some k → vo.ownBlock = some k ∨ W.heap.size ≤ k) : RsB w vo' out' vp ab W' := by
  have hc : Chg (fun k => vo.ownBlock = some k) W W' := Chg.grown hg (fun k e => .inl e)
  refine ⟨hm, h.all.chg hc (fun k hk _ => hk.elim) (fun k e e2 => h.ne k e2 e), fun k e e2 => ?_, h.below.trans (hc.below h.below.size (fun k e => (h.out.base_le e).1))⟩
  rcases ho k e with e3 | e3
  · exact h.ne k e3 e2
  · have := (h.all.base_le e2).2; omega

set_option maxRecDepth 100000 in
set_option maxHeartbeats 4000000 in
theorem resolvent_calls (Sa Sb : Nat → Prop) (Aa Ab : Option Addr) (ca cb : Nat) (a b : List Int) (t : Int) (w : World) (ha : C kI Sa w Aa a) (hca : a.length ≤ ca) (hb : C kI Sb w Ab b) (hcb : b.length ≤ cb) (ra : rightC a = true) (rb : rightC b = true) (ht1 : -9223372036854775808 ≤ t) (ht2 : t ≤ 9223372036854775807) :
    Calls Try.prog 42 #[.slice Aa a.length ca, .slice Ab b.length cb, .int .i64 t] w (ResEnd w (resB a b t)) := by
  have la := right_len ra
  have lb := right_len rb
  have HA := Lib.hid ha
  have HB := Lib.hid hb
  have HRa := Lib.hid ra
  have HRb := Lib.hid rb
  have H1 := Lib.hid (fun (W : World) (hw : Below w.heap.size w W) x => has_calls x (ha.below hw) hca (by omega))
  have H2 := Lib.hid (fun (W : World) (hw : Below w.heap.size w W) x => has_calls x (hb.below hw) hcb (by omega))
  have la' : a.length ≤ 9223372036854775807 := by omega
  have lb' : b.length ≤ 9223372036854775807 := by omega
  generalize hR : resB a b t = R
  have HR := Lib.hid hR
  clear ha hb hR ra rb
  by_cases h1 : t < 1
  · have hR := HR.out
    unfold resB at hR
    rw [if_pos h1] at hR
    subst hR
    clear HR
    go_enter Try.func42, Try.ntmps42
    go_wp2
    go_ret2
    exact ⟨rfl, Below.refl _ _⟩
  · have h1' : 1 ≤ t := by omega
    by_cases h2 : t ∈ a
    · have H1t := Lib.hid (fun (W : World) hw => H1.out W hw t)
      rw [decide_eq_true h2] at H1t
      by_cases h3 : -t ∈ b
      · have H2t := Lib.hid (fun (W : World) hw => H2.out W hw (-t))
        rw [decide_eq_true h3] at H2t
        have hal := resP_resB HRa.out HRb.out h1' h2 h3
        rw [HR.out] at hal
        have HAl := Lib.hid hal
        have HLit : Hid (∀ x ∈ a ++ b, Z.Lit x) := Lib.hid (fun x hx => (List.mem_append.1 hx).elim (fun h => (right_iff.1 HRa.out).1 x h) (fun h => (right_iff.1 HRb.out).1 x h))
        have HSR : Hid (∀ c, R = some c → Srt c) := Lib.hid (fun c e => (right_iff.1 (resB_spec (HR.out.trans e) HRa.out HRb.out).1).2)
        clear hal h2 h3 HR H1 H2
        go_enter Try.func42, Try.ntmps42
        go_wp2_with fail
        refine (H1t.out _ (Below.refl _ _)).mono ?_
        rintro e w1 ⟨rfl, hb1⟩
        have HB1 := Lib.hid hb1
        clear hb1
        go_wp2_with fail
        refine (H2t.out _ HB1.out).mono ?_
        rintro e w2 ⟨rfl, hb2⟩
        have HB2 := Lib.hid (HB1.out.trans (hb2.mono HB1.out.size))
        have HB3 := Lib.hid (HB2.out.alloc HB2.out.size (.cells #[] 3))
        clear hb2 HB1 H1t H2t
        go_wp2_with fail
        refine (clone_int (HA.out.below HB3.out) (by omega)).mono ?_
        rintro e w4 ⟨A4, c4, rfl, hm4, hb4⟩
        obtain ⟨A5, n5, c5, w5, hrun, hn5, hm5, hg5, ho5⟩ := append_int (c := cb) (mine_nob (d := kI) hm4) (HB.out.below (HB3.out.trans (hb4.mono HB3.out.size))) (by omega) hb4.size
        have hR0 : Hid (RsB w (.slice (some ⟨w2.heap.size, 0, none⟩) 0 0) [] (.slice A5 n5 c5) (a ++ b) w5) := Lib.hid (by
          have hcg : Chg (fun k => (Value.slice A4 a.length c4).ownBlock = some k) w4 w5 := Chg.grown hg5 (fun k e => .inl e)
          have h2 : w2.heap.size < (w2.alloc (.cells #[] 3)).heap.size := by simp
          have hne : ∀ k, (Value.slice A4 a.length c4).ownBlock = some k → w2.heap.size < k := fun k e => Nat.lt_of_lt_of_le h2 (hm4.base_le e).1
          refine ⟨?_, hm5.lower HB3.out.size, fun k e e2 => ?_, (HB3.out.trans (hb4.mono HB3.out.size)).trans (hcg.below (Nat.le_trans HB3.out.size hb4.size) (fun k e => Nat.le_trans HB3.out.size (hm4.base_le e).1))⟩
          · exact ((mine_empty kI (S := NoB) (w := w2.alloc (.cells #[] 3)) HB2.out.size h2).below hb4).chg hcg (fun k hk _ => hk.elim) (fun k e e2 => by simp [Value.ownBlock] at e; have := hne k e2; omega)
          · simp [Value.ownBlock] at e
            subst e
            rcases ho5 _ e2 with e3 | e3
            · have := hne _ e3; omega
            · have := hb4.size; omega)
        have hnl : n5 ≤ 120 := by rw [hn5, List.length_append]; omega
        have HRun := Lib.hid hrun
        have HRp : Hid (resP t [] ((a ++ b).drop 0) = resP t [] (a ++ b)) := Lib.hid (by rw [List.drop_zero])
        generalize hQ : resP t [] (a ++ b) = Q at HRp HAl
        generalize a ++ b = ab at hR0 HLit hn5 HRp
        subst hn5
        clear hrun hm4 hb4 hm5 hg5 ho5 HB2 HB3 hQ
        go_wp2_with (at_builtin; refine G.wpList_append_run rfl _ _ _ rfl _ _ rfl rfl _ _ HRun.out ?_)
        clear HRun
        go_loopg [8, 32] ab.length (fun gg v8 v32 wr => ∃ (i : Nat) (out : List Int) (g o cp : Nat), v8 = .slice (some ⟨g, o, none⟩) out.length cp ∧ v32 = .int .i64 i ∧ i ≤ ab.length ∧ ab.length - i ≤ gg ∧ out.length ≤ i ∧ Hid (∀ x ∈ out, x ∈ ab) ∧ Hid (resP t out (ab.drop i) = Q) ∧ Hid (RsB w (.slice (some ⟨g, o, none⟩) out.length cp) out (.slice A5 ab.length c5) ab wr))
        case atStart => exact ⟨0, [], _, _, _, rfl, rfl, by omega, by omega, by simp, Lib.hid (fun x hx => absurd hx List.not_mem_nil), HRp, hR0⟩
        case round =>
          clear HRp hR0
          obtain ⟨i, out, g, o, cp, rfl, rfl, hi, hg, hol, HO, HQ, HX⟩ := hrel
          by_cases hlt : i < ab.length
          · have hltz : (i : Int) < (ab.length : Int) := by omega
            have hi0 : (0 : Int) ≤ (i : Int) := by omega
            have Hlt := Lib.hid hlt
            obtain ⟨b6, o6, rfl, hb6, p0⟩ := int_at (HX.out.all.read.2.2) i hlt
            have hlit := HLit.out _ (List.getElem_mem hlt)
            have hmem := List.getElem_mem hlt
            have hq := HQ.out
            rw [List.drop_eq_getElem_cons hlt, resP] at hq
            generalize ab[i]'hlt = x at p0 hlit hmem hq
            obtain ⟨x0, x1, x2⟩ := hlit
            have Hmem := Lib.hid hmem
            clear hmem HQ
            have HH := Lib.hid (fun (W : World) (hb : Below wr.heap.size wr W) y => has_calls y ((HX.out.out.read.2.2).below hb) (HX.out.out.read.2.1) (by omega))
            by_cases e1 : x = t
            · rw [if_pos (.inl e1)] at hq
              have HQ := Lib.hid hq
              have g1 : (x == t) = true := beq_iff_eq.2 e1
              clear e1 hq
              go_wp2
              go_roundg (ab.length - (i + 1))
              case measure => omega
              case rel => exact ⟨i + 1, out, g, o, cp, rfl, by go_num, Hlt.out, Nat.le_refl _, by omega, HO, HQ, HX⟩
            · have g1 : (x == t) = false := beq_eq_false_iff_ne.2 e1
              by_cases e2 : x = -t
              · rw [if_pos (.inr (.inl e2))] at hq
                have HQ := Lib.hid hq
                have g2 : (x == -t) = true := beq_iff_eq.2 e2
                clear e1 e2 hq
                go_wp2
                go_roundg (ab.length - (i + 1))
                case measure => omega
                case rel => exact ⟨i + 1, out, g, o, cp, rfl, by go_num, Hlt.out, Nat.le_refl _, by omega, HO, HQ, HX⟩
              · have g2 : (x == -t) = false := beq_eq_false_iff_ne.2 e2
                by_cases e3 : x ∈ out
                · rw [if_pos (.inr (.inr e3))] at hq
                  have HQ := Lib.hid hq
                  have HC := Lib.hid (HH.out wr (Below.refl _ _) x)
                  rw [decide_eq_true e3] at HC
                  clear e1 e2 e3 hq HH
                  go_wp2_with fail
                  refine HC.out.mono ?_
                  rintro e w7 ⟨rfl, hb7⟩
                  have HX7 := Lib.hid (HX.out.step hb7)
                  clear hb7 HX HC p0
                  go_wp2
                  go_roundg (ab.length - (i + 1))
                  case measure => omega
                  case rel => exact ⟨i + 1, out, g, o, cp, rfl, by go_num, Hlt.out, Nat.le_refl _, by omega, HO, HQ, HX7⟩
                · have HC := Lib.hid (HH.out wr (Below.refl _ _) x)
                  rw [decide_eq_false e3] at HC
                  have HC2 := Lib.hid (fun W hb => HH.out W hb (-x))
                  rw [if_neg (by rintro (h | h | h); exact e1 h; exact e2 h; exact e3 h)] at hq
                  have HQ := Lib.hid hq
                  clear e1 e2 e3 hq HH
                  go_wp2_with fail
                  refine HC.out.mono ?_
                  rintro e w7 ⟨rfl, hb7⟩
                  have HX7 := Lib.hid (HX.out.step hb7)
                  have HC3 := Lib.hid (HC2.out w7 hb7)
                  clear hb7 HX HC HC2 p0
                  have hq := HQ.out
                  by_cases e4 : -x ∈ out
                  · rw [decide_eq_true e4] at HC3
                    rw [if_pos e4] at hq
                    have HAl2 := HAl.out
                    rw [← hq] at HAl2
                    clear e4 hq HQ
                    cases R with
                    | some c => exact HAl2.elim
                    | none =>
                      go_wp2_with fail
                      refine HC3.out.mono ?_
                      rintro e w8 ⟨rfl, hb8⟩
                      have HX8 := Lib.hid (HX7.out.step hb8)
                      clear hb8
                      go_wp2
                      go_ret2
                      exact ⟨rfl, HX8.out.below⟩
                  · rw [decide_eq_false e4] at HC3
                    rw [if_neg e4] at hq
                    have HQ2 := Lib.hid hq
                    clear e4 hq HQ
                    go_wp2_with fail
                    refine HC3.out.mono ?_
                    rintro e w8 ⟨rfl, hb8⟩
                    have hx8 := HX7.out.step hb8
                    have hba : Below w8.heap.size w8 (w8.alloc (.cells #[.int .i64 x] 3)) := (Below.refl _ _).alloc (Nat.le_refl _) _
                    have hx9 := hx8.step hba
                    obtain ⟨A9, n9, c9, w9, hrun, hn9, hm9, hg9, ho9⟩ := append_int (c := 1) hx9.out (one_int (S := Any) (World.alloc_heap_new w8 (.cells #[.int .i64 x] 3)) trivial) (by simp; omega) hx9.below.size
                    have hxp := hx9.put hm9 hg9 ho9
                    subst hn9
                    have hA9 : ∃ g9 o9, A9 = some ⟨g9, o9, none⟩ := by
                      cases A9 with
                      | some ad =>
                        obtain ⟨A', cap', e, _, _, hA⟩ := hm9
                        injection e with e1 _ _
                        subst e1
                        rcases hA with ⟨e, _⟩ | ⟨g9, o9, e, _⟩
                        · cases e
                        · exact ⟨g9, o9, e⟩
                      | none =>
                        have := hm9.read.2.2.2 (by simp)
                        obtain ⟨b, o, e, _⟩ := this
                        cases e
                    obtain ⟨g9, o9, rfl⟩ := hA9
                    have HRun := Lib.hid hrun
                    have HXp := Lib.hid hxp
                    have HOp := Lib.hid (fun y (hy : y ∈ out ++ [x]) => (List.mem_append.1 hy).elim (HO.out y) (fun h => by rw [List.mem_singleton.1 h]; exact Hmem.out))
                    have hol2 : (out ++ [x]).length ≤ i + 1 := by simp; omega
                    have Hol := Lib.hid hol2
                    clear hb8 hx8 hba hx9 hrun hm9 hg9 ho9 hxp hol2 HX7 HC3
                    go_wp2_with (at_builtin; refine G.wpList_append_run rfl _ _ _ rfl _ _ rfl rfl _ _ HRun.out ?_)
                    go_roundg (ab.length - (i + 1))
                    case measure => omega
                    case rel => exact ⟨i + 1, out ++ [x], g9, o9, c9, by rw [List.length_append]; rfl, by go_num, Hlt.out, Nat.le_refl _, Hol.out, HOp, HQ2, HXp⟩
          · have hltz : ¬ (i : Int) < (ab.length : Int) := by omega
            have hq := HQ.out
            rw [List.drop_eq_nil_of_le (by omega), resP] at hq
            have HAl2 := HAl.out
            rw [← hq] at HAl2
            cases R with
            | none => exact HAl2.elim
            | some c =>
              have hperm : out.Perm c := HAl2
              have HP := Lib.hid hperm
              have HOr := Lib.hid (ordered_calls HX.out.out (by omega) (fun x hx => by have := HLit.out x (HO.out x hx); unfold Z.Lit at this; omega))
              clear hq HAl2 hperm HQ
              go_wp2_with fail
              refine HOr.out.mono ?_
              rintro e w7 ⟨rfl, l', hp', hs', hm', hc'⟩
              have hl' := srt_ext (HSR.out c rfl) (hs'.imp (fun {p q} h => by omega)) (hp'.trans HP.out)
              subst hl'
              have hlen : out.length = l'.length := hp'.length_eq.symm
              have hbl := HX.out.below.trans (hc'.below HX.out.below.size (fun k (e : k = g) => by rw [e]; exact (HX.out.out.base_le (k := g) rfl).1))
              rw [hlen] at hm'
              have Hm' := Lib.hid hm'
              have Hbl := Lib.hid hbl
              clear hp' hs' hm' hc' hbl
              go_wp2
              go_ret2
              exact ⟨⟨_, _, rfl, Hm'.out⟩, Hbl.out⟩
      · have H2t := Lib.hid (fun (W : World) hw => H2.out W hw (-t))
        rw [decide_eq_false h3] at H2t
        have hR := HR.out
        unfold resB at hR
        rw [if_neg h1, if_pos h2, if_neg h3] at hR
        subst hR
        clear HR h2 h3 H1 H2
        go_enter Try.func42, Try.ntmps42
        go_wp2_with fail
        refine (H1t.out _ (Below.refl _ _)).mono ?_
        rintro e w1 ⟨rfl, hb1⟩
        have HB1 := Lib.hid hb1
        clear hb1
        go_wp2_with fail
        refine (H2t.out _ HB1.out).mono ?_
        rintro e w2 ⟨rfl, hb2⟩
        have HB2 := Lib.hid (HB1.out.trans (hb2.mono HB1.out.size))
        clear hb2
        go_wp2
        go_ret2
        exact ⟨rfl, HB2.out⟩
    · have H1t := Lib.hid (fun (W : World) hw => H1.out W hw t)
      rw [decide_eq_false h2] at H1t
      have hR := HR.out
      unfold resB at hR
      rw [if_neg h1, if_neg h2] at hR
      subst hR
      clear HR h2 H1 H2
      go_enter Try.func42, Try.ntmps42
      go_wp2_with fail
      refine (H1t.out _ (Below.refl _ _)).mono ?_
      rintro e w1 ⟨rfl, hb1⟩
      have HB1 := Lib.hid hb1
      clear hb1
      go_wp2
      go_ret2
      exact ⟨rfl, HB1.out⟩
end Go.Proofs.Ytggfjfmgclcnlaa.Zb
