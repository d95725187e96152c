/- Walks of the solver: resolve. -/
import Derived.Test.YtggfjfmgclcnlaaVd
import Derived.Deep.RegionHeld3
import Derived.Deep.RegionLaw
namespace Go.Proofs.Ytggfjfmgclcnlaa.Zb
open Go Go.RowKit Go.Shelf Go.Proofs.Ytggfjfmgclcnlaa.K Go.Proofs.Ytggfjfmgclcnlaa.G Go.Proofs.Ytggfjfmgclcnlaa.Z
set_option linter.unusedSimpArgs false
set_option linter.unusedVariables false

theorem getD_at {l : List Cls} {i : Nat} (h : i < l.length) : l.getD i [] = l[i]'h := by rw [List.getD_eq_getElem?_getD, List.getElem?_eq_getElem h]; rfl
/-- the clauses of the solver, read -/
theorem Sv.cls {B : Bk} {l : List Cls} {v : List Int} {T : SS} {va vp : Value} {SA : Nat → Prop} {W : World} (h : Sv B l v T va vp SA W) (i : Nat) (hi : i < T.all.length) :
    ∃ g o c A' c', va = .slice (some ⟨g, o, none⟩) T.all.length c ∧ T.all.length ≤ c ∧ g < W.heap.size ∧ W.cell? ⟨g, o + i, none⟩ = some (.slice A' (T.all.getD i []).length c') ∧ (T.all.getD i []).length ≤ c' ∧ C kI (fun k => SA k ∨ va.ownBlock = some k) W A' (T.all.getD i []) := by
  obtain ⟨A, c, e, hl, hC⟩ := h.all.slice_
  obtain ⟨b, o, A', c', rfl, hb, q, hl', hC'⟩ := cls_at hC i hi
  rw [getD_at hi]
  exact ⟨b, o, c, A', c', e, hl, hb, q, hl', hC'⟩
theorem ResEnd.any {w w' : World} {D : Option Cls} {e : Ending} (h : ResEnd w D e w') : ∃ A c bb, e = .returned (.tuple #[.slice A (D.getD []).length c, .bool bb]) ∧ Mine kI w.heap.size NoB w' (.slice A (D.getD []).length c) (D.getD []) ∧ Below w.heap.size w w' := by
  obtain ⟨h1, h2⟩ := h
  cases D with
  | none => exact ⟨none, 0, false, h1, Mine.nil .., h2⟩
  | some d =>
    obtain ⟨A, cp, e1, e2⟩ := h1
    exact ⟨A, cp, true, e1, e2, h2⟩
theorem Tr.own {B : Bk} {va vp : Value} {SA : Nat → Prop} {w w' : World} (h : Chg (fun k => k = B.sp) w w') : Tr B va vp SA va vp SA w w' := ⟨h.mono (fun k e => .inl e), fun _ => .inl, fun _ => .inl, fun _ => .inl⟩
section
variable {B : Bk} {l : List Cls} {v : List Int} {T : SS} {va vp : Value} {SA : Nat → Prop} {W : World}
/-- one clause more -/
theorem Sv.pushAll (hB : B.Ok) (h : Sv B l v T va vp SA W) {A : Option Addr} {c n0 : Nat} {d : Cls} {Sd : Nat → Prop} (hd : C kI Sd W A d) (hc : d.length ≤ c) (hS : ∀ k, Sd k → n0 ≤ k ∧ vp.ownBlock ≠ some k ∧ va.ownBlock ≠ some k ∧ ¬ B.H k) (hn0 : n0 ≤ W.heap.size) (hl : T.all.length ≤ 90000000) :
    ∃ A' n' c' w' SA', (Builtin.append_ #[34, 34] 34 #[va, .slice (some ⟨W.heap.size, 0, none⟩) 1 1]).run Try.prog (W.alloc (.cells #[.slice A d.length c] 56)) = .ok (.slice A' n' c') w' ∧ n' = T.all.length + 1 ∧
      Chg (fun k => va.ownBlock = some k) W w' ∧ (∀ k, SA' k → SA k ∨ n0 ≤ k) ∧
      Sv B l v { T with all := T.all ++ [d] } (.slice A' n' c') vp SA' (w'.setCell ⟨B.sp, 0, none⟩ (.slice A' n' c')) ∧ ∀ k, (Value.slice A' n' c').ownBlock = some k → va.ownBlock = some k ∨ W.heap.size ≤ k := by
  have hb : Below W.heap.size W (W.alloc (.cells #[.slice A d.length c] 56)) := (Below.refl _ _).alloc (Nat.le_refl _) _
  have h1 := h.below hb
  have hone := one_cls (S := fun k => (Sd k ∨ k = W.heap.size) ∧ k < (W.alloc (.cells #[.slice A d.length c] 56)).heap.size) (alloc_new W (.cells #[.slice A d.length c] 56)) ⟨.inr rfl, by simp⟩ hc ((hd.below hb).bound.mono (fun k hk => ⟨.inl hk.1, hk.2⟩))
  obtain ⟨A', n', c', w', hrun, hn', hm, hg, ho⟩ := append_own (c := 1) (S := fun k => SA k ∨ ((Sd k ∨ k = W.heap.size) ∧ k < (W.alloc (.cells #[.slice A d.length c] 56)).heap.size)) Try.underlying34 infoC rfl (by decide) (by decide) (h1.all.mono (fun k hk => .inl hk)) hone
    (fun k hk => ⟨.inr hk, fun e => hk.1.elim (fun h2 => (hS k h2).2.2.1 e) (fun h2 => by have := (h.all.base_le e).2; omega)⟩) (by simp; omega) (Nat.zero_le _)
  have hgc : Chg (fun k => va.ownBlock = some k) (W.alloc (.cells #[.slice A d.length c] 56)) w' := Chg.grown hg (fun k e => .inl e)
  refine ⟨A', n', c', w', _, hrun, by rw [hn', List.length_append]; rfl, (Chg.of_fresh hb).trans hgc, ?_, h1.setAll hB hgc hm (fun k hk => ?_) (fun k e => ho k e), fun k e => ?_⟩
  · rintro k (hk | ⟨hk | hk, _⟩)
    · exact .inl hk
    · exact .inr (hS k hk).1
    · exact .inr (by omega)
  · rcases hk with hk | ⟨hk | hk, hlt⟩
    · exact ⟨Nat.lt_of_lt_of_le (h1.sa k hk).1 hgc.size, (h1.sa k hk).2⟩
    · have h4 := (hS k hk).2.2.2
      exact ⟨Nat.lt_of_lt_of_le hlt hgc.size, fun e => h4 (.inl e), fun e => h4 (.inr (.inr (.inl e))), fun e => h4 (.inr (.inr (.inr (.inl e)))), fun e => h4 (.inr (.inr (.inr (.inr (.inl e))))), (hS k hk).2.1⟩
    · have hH : ¬ B.H k := fun e => by have := h.H_lt k e; omega
      exact ⟨Nat.lt_of_lt_of_le hlt hgc.size, fun e => hH (.inl e), fun e => hH (.inr (.inr (.inl e))), fun e => hH (.inr (.inr (.inr (.inl e)))), fun e => hH (.inr (.inr (.inr (.inr (.inl e))))), fun e => by have := (h.prf.base_le e).2; omega⟩
  · rcases ho k e with e2 | e2
    · exact .inl e2
    · exact .inr (Nat.le_trans hb.size e2)
/-- one step more -/
theorem Sv.pushStep (hB : B.Ok) (h : Sv B l v T va vp SA W) (p n a : Int) (hl : T.proof.length ≤ 90000000) :
    ∃ A' n' c' w', (Builtin.append_ #[29, 29] 29 #[vp, .slice (some ⟨W.heap.size, 0, none⟩) 1 1]).run Try.prog (W.alloc (.cells #[.int .i64 p, .int .i64 n, .int .i64 a] 55)) = .ok (.slice A' n' c') w' ∧
      Chg (fun k => vp.ownBlock = some k) W w' ∧
      Sv B l v { T with proof := T.proof ++ [(p, n, a)] } va (.slice A' n' c') SA (w'.setCell ⟨B.sp, 2, none⟩ (.slice A' n' c')) ∧ ∀ k, (Value.slice A' n' c').ownBlock = some k → vp.ownBlock = some k ∨ W.heap.size ≤ k := by
  have hb : Below W.heap.size W (W.alloc (.cells #[.int .i64 p, .int .i64 n, .int .i64 a] 55)) := (Below.refl _ _).alloc (Nat.le_refl _) _
  have h1 := h.below hb
  obtain ⟨A', n', c', w', hrun, hn', hm, hg, ho⟩ := append_own (c := 1) (S := Any) (S' := fun k => k = W.heap.size) (ys := [(p, n, a)]) (A := some ⟨W.heap.size, 0, none⟩) Try.underlying29 infoS rfl (by decide) (by decide) (h1.prf.mono (fun _ h => h.elim)) (one_stp (alloc_new W _) rfl)
    (fun k hk => ⟨trivial, fun e => by have := (h.prf.base_le e).2; omega⟩) (by simp; omega) (Nat.zero_le _)
  have hgc : Chg (fun k => vp.ownBlock = some k) (W.alloc (.cells #[.int .i64 p, .int .i64 n, .int .i64 a] 55)) w' := Chg.grown hg (fun k e => .inl e)
  refine ⟨A', n', c', w', hrun, (Chg.of_fresh hb).trans hgc, h1.setProof hB hg (mine_stp hm) (fun k e => ho k e), fun k e => ?_⟩
  rcases ho k e with e2 | e2
  · exact .inl e2
  · exact .inr (Nat.le_trans hb.size e2)
end
theorem Tr.last {B : Bk} {va vp vp3 va4 : Value} {SA SA4 : Nat → Prop} {w W W' : World} (h : Tr B va vp SA va vp3 SA w W) (hc : Chg (fun k => k = B.sp ∨ va.ownBlock = some k) W W') (ho : ∀ k, va4.ownBlock = some k → va.ownBlock = some k ∨ W.heap.size ≤ k) (hs : ∀ k, SA4 k → SA k ∨ w.heap.size ≤ k) : Tr B va vp SA va4 vp3 SA4 w W' :=
  ⟨h.chg.trans (hc.mono (fun k e => e.elim .inl (fun e => .inr (.inr (.inr (.inr (.inl e))))))), fun k e => (ho k e).imp id (fun e2 => Nat.le_trans h.chg.size e2), h.op, hs⟩
/-- what resolve makes: a clause that was, or a new one -/
def RsEnd (B : Bk) (l : List Cls) (v : List Int) (R : Nat × SS) (va vp : Value) (SA : Nat → Prop) (w : World) (e : Ending) (w' : World) : Prop :=
  e = .returned (.int .i64 (R.1 : Int)) ∧ ∃ va' vp' SA', Sv B l v R.2 va' vp' SA' w' ∧ Tr B va vp SA va' vp' SA' w w'
set_option maxRecDepth 100000 in
set_option maxHeartbeats 4000000 in
theorem resolve_calls (B : Bk) (hB : B.Ok) (l : List Cls) (v : List Int) (T : SS) (va vp : Value) (SA : Nat → Prop) (x : Int) (wi wo : Nat) (w : World) (h : Sv B l v T va vp SA w) (hx : Z.Lit x) (hwi : wi < T.all.length) (hwo : wo < T.all.length) (hr : ∀ c ∈ T.all, rightC c = true) (hp : T.proof.length ≤ 20000) (ha : T.all.length ≤ 30000) :
    Calls Try.prog 48 #[.pointer (some ⟨B.sp, 0, none⟩), .int .i64 (wi : Int), .int .i64 (wo : Int), .int .i64 x] w (RsEnd B l v (resolveB T wi wo x) va vp SA w) := by
  obtain ⟨x0, x1, x2⟩ := hx
  have ea : atm x = ((x.natAbs : Nat) : Int) := by unfold atm; split <;> omega
  have HAt := Lib.hid (fun (W : World) => atom_calls x W (by omega) (by omega))
  rw [ea] at HAt
  have HHo := Lib.hid (fun (W : World) => holds_calls x W)
  have wn : IntKind.i64.wrap (-x) = -x := by rw [IntKind.wrap_i64]; omega
  obtain ⟨g1, o1, c1, A1, cp1, e1, hc1, hg1, q1, hl1, hC1⟩ := h.cls wi hwi
  obtain ⟨g2, o2, c2, A2, cp2, e2, hc2, hg2, q2, hl2, hC2⟩ := h.cls wo hwo
  have e3 := e1.symm.trans e2
  simp only [Value.slice.injEq, Option.some.injEq, Addr.mk.injEq, and_true, true_and] at e3
  obtain ⟨⟨rfl, rfl⟩, rfl⟩ := e3
  have r1 : rightC (T.all.getD wi []) = true := by rw [getD_at hwi]; exact hr _ (List.getElem_mem hwi)
  have r2 : rightC (T.all.getD wo []) = true := by rw [getD_at hwo]; exact hr _ (List.getElem_mem hwo)
  have L1 := right_len r1
  have L2 := right_len r2
  have HH1 := Lib.hid (fun W (hb : Below w.heap.size w W) => has_calls x (hC1.below hb) hl1 (by omega))
  have HH2 := Lib.hid (fun W (hb : Below w.heap.size w W) => has_calls (-x) (hC2.below hb) hl2 (by omega))
  have k0 := h.k0
  rw [e1] at k0
  have HS := Lib.hid h
  have wi1 : (wi : Int) < (T.all.length : Int) := by omega
  have wi0 : (0 : Int) ≤ (wi : Int) := by omega
  have wo1 : (wo : Int) < (T.all.length : Int) := by omega
  have wo0 : (0 : Int) ≤ (wo : Int) := by omega
  have HK := Lib.hid (fun W (hb : Below w.heap.size w W) => And.intro ((hb.cell (p := ⟨B.sp, 0, none⟩) h.sp_lt).trans k0) (And.intro ((hb.cell (p := ⟨g1, o1 + wi, none⟩) hg1).trans q1) ((hb.cell (p := ⟨g1, o1 + wo, none⟩) hg1).trans q2)))
  have HRes := Lib.hid (And.intro (fun W (hb : Below w.heap.size w W) => resolvent_calls _ _ A1 A2 cp1 cp2 _ _ (x.natAbs : Int) W (hC1.below hb) hl1 (hC2.below hb) hl2 r1 r2 (by omega) (by omega)) (fun W (hb : Below w.heap.size w W) => resolvent_calls _ _ A2 A1 cp2 cp1 _ _ (x.natAbs : Int) W (hC2.below hb) hl2 (hC1.below hb) hl1 r2 r1 (by omega) (by omega)))
  have HHa := Lib.hid (And.intro h.prf.form (And.intro h.op h.oa))
  obtain ⟨ca, hca⟩ : ∃ ca, T.all.getD wi [] = ca := ⟨_, rfl⟩
  obtain ⟨cb, hcb⟩ : ∃ cb, T.all.getD wo [] = cb := ⟨_, rfl⟩
  have HRb : Hid (resolveB T wi wo x = if x ∉ ca then (wi, T) else if -x ∉ cb then (wo, T) else if T.proof.length = 20000 then (if 0 < x then wi else wo, { T with tr := 7 })
    else (T.all.length, { T with proof := T.proof ++ [(((if 0 < x then wi else wo : Nat) : Int), ((if 0 < x then wo else wi : Nat) : Int), (x.natAbs : Int))], all := T.all ++ [(resB (if 0 < x then ca else cb) (if 0 < x then cb else ca) (x.natAbs : Int)).getD []] })) := Lib.hid (by
    unfold resolveB
    rw [hca, hcb]
    by_cases hp : 0 < x
    · rw [if_pos hp, if_pos hp, if_pos hp, if_pos hp, hca, hcb]
    · rw [if_neg hp, if_neg hp, if_neg hp, if_neg hp, hca, hcb])
  generalize resolveB T wi wo x = R at HRb ⊢
  rw [hca] at HH1 HRes HK hl1
  rw [hcb] at HH2 HRes HK hl2
  rw [hca] at q1 L1
  rw [hcb] at q2 L2
  have hl1' : ca.length ≤ 9223372036854775807 := by omega
  have hl2' : cb.length ≤ 9223372036854775807 := by omega
  clear h hr r1 r2 L1 L2 hC1 hC2 e2 hca hcb hl1 hl2 ea
  by_cases m1 : x ∈ ca
  · have HH1' := Lib.hid (fun W (hb : Below w.heap.size w W) => by have := HH1.out W hb; rw [decide_eq_true m1] at this; exact this)
    by_cases m2 : -x ∈ cb
    · have HH2' := Lib.hid (fun W (hb : Below w.heap.size w W) => by have := HH2.out W hb; rw [decide_eq_true m2] at this; exact this)
      have hres := HRb.out
      rw [if_neg (fun e => e m1), if_neg (fun e => e m2)] at hres
      have HRb := Lib.hid hres
      clear HH1 HH2 hres m1 m2
      have wa1 : wi < T.all.length := hwi
      obtain ⟨⟨Ap, capp, rfl, hcap⟩, hop, hoa⟩ := HHa.out
      by_cases hpos : 0 < x
      -- POS
      · have hd : decide (0 < x) = true := decide_eq_true hpos
        have hres := HRb.out
        simp only [if_pos hpos] at hres
        have HRb := Lib.hid hres
        have HRq := Lib.hid (fun W hb => (HRes.out.1 W hb).mono (R' := fun e w' => ∃ A c bb, e = .returned (.tuple #[.slice A ((resB ca cb (x.natAbs : Int)).getD []).length c, .bool bb]) ∧ Mine kI W.heap.size NoB w' (.slice A ((resB ca cb (x.natAbs : Int)).getD []).length c) ((resB ca cb (x.natAbs : Int)).getD []) ∧ Below W.heap.size W w') (fun e w' h => h.any))
        generalize (resB ca cb (x.natAbs : Int)).getD [] = d at HRq HRb
        generalize x.natAbs = a at HRq HRb HAt
        clear hres HRes
        go_enter Try.func48, Try.ntmps48
        go_wp2_with fail
        refine (HH1'.out _ (Below.refl _ _)).mono ?_
        rintro e w5 ⟨rfl, hb5⟩
        obtain ⟨k0, q1, q2⟩ := HK.out _ hb5
        have HB5 := Lib.hid hb5
        clear hb5
        go_wp2_with fail
        refine (HH2'.out _ HB5.out).mono ?_
        rintro e w6 ⟨rfl, hb6⟩
        have hb6w := HB5.out.trans (hb6.mono HB5.out.size)
        clear k0 q1 q2
        obtain ⟨k0, q1, q2⟩ := HK.out _ hb6w
        have HB6 := Lib.hid hb6w
        clear hb6 hb6w HH1' HH2' HB5
        go_wp2_with fail
        refine (HHo.out _).mono ?_
        rintro e w7 ⟨rfl, rfl⟩
        rw [hd]
        go_upto_region 7 with fail
        have hs0 : Below w6.heap.size w6 w6.drew := Chg.below1 w6
        go_region_held3 (fun W' => W'.cell? ⟨B.sp, 0, none⟩ = some (.slice (some ⟨g1, o1, none⟩) T.all.length c1) ∧ W'.cell? ⟨g1, o1 + wi, none⟩ = some (.slice A1 ca.length cp1) ∧ W'.cell? ⟨g1, o1 + wo, none⟩ = some (.slice A2 cb.length cp2)) (go_keep)
          (first
            | (go_at_call 35
               (with_reducible refine (HAt.out _).mono ?_)
               rintro e w9 ⟨rfl, rfl⟩)
            | (go_at_call 42
               (with_reducible refine (HRq.out _ ?_).mono ?_)
               (exact HB6.out.trans (hs0.mono HB6.out.size))
               rintro e w9 ⟨A9, c9, bb, rfl, hm9, hb9⟩
               have hs9 := HB6.out.trans ((hs0.trans hb9).mono HB6.out.size)
               clear k0 q1 q2
               obtain ⟨k0, q1, q2⟩ := HK.out _ hs9))
        all_goals
          have S9 := HS.out.below hs9
          have hd9 : C kI (fun k => w.heap.size ≤ k ∧ k < w9.heap.size) w9 A9 d := hm9.read.2.2.bound.mono (fun k hk => ⟨hk.1.elim False.elim (fun e => Nat.le_trans HB6.out.size (hm9.base_le (show (Value.slice A9 d.length c9).ownBlock = some k by cases A9 with | none => cases e | some _ => simpa [Value.ownBlock] using e)).1), hk.2⟩)
          have hdl := hm9.read.2.1
          have k2 := S9.k2
          have k8 := S9.k8
          have fz8 := S9.fz 8
          have hpl : T.proof.length ≤ 9223372036854775807 := by omega
          have HLow : Hid (∀ k, w.heap.size ≤ k → ¬ B.H k ∧ va.ownBlock ≠ some k ∧ (Value.slice Ap T.proof.length capp).ownBlock ≠ some k) := Lib.hid (fun k hk => ⟨fun e => by have := HS.out.H_lt k e; omega, fun e => by have := (HS.out.all.base_le e).2; omega, fun e => by have := (HS.out.prf.base_le e).2; omega⟩)
          have HTr9 : Hid (Tr B va (.slice Ap T.proof.length capp) SA va (.slice Ap T.proof.length capp) SA w w9) := Lib.hid (Tr.fresh hs9)
          have HS9 := Lib.hid S9
          have HD9 := Lib.hid hd9
          have HDl := Lib.hid hdl
          have HN0 := Lib.hid hs9.size
          clear q1 q2 hm9 hb9 hs0 hs9 HRq HK HB6 S9 hd9 hdl hop hoa HHa
          by_cases hfull : T.proof.length = 20000
          · have heq : ((T.proof.length : Int) == 20000) = true := by rw [hfull]; rfl
            have hres := HRb.out
            rw [if_pos hfull] at hres
            subst hres
            clear hfull HRb
            have HSn := Lib.hid (HS9.out.setTr hB 7)
            go_wp2
            go_ret
            exact ⟨rfl, va, _, SA, HSn.out, HTr9.out.trans (Tr.own (Chg.setCell (T := fun k => k = B.sp) (p := ⟨B.sp, 8, none⟩) rfl _))⟩
          · have heq : ((T.proof.length : Int) == 20000) = false := beq_eq_false_iff_ne.2 (by omega)
            have hres := HRb.out
            rw [if_neg hfull] at hres
            subst hres
            clear hfull HRb k8 fz8
            obtain ⟨A3, n3, c3, w3, hrun3, hg3, hS3, ho3⟩ := HS9.out.drew.pushStep hB (wi : Int) (wo : Int) (a : Int) (by omega)
            have hrun3' : (Builtin.append_ #[29, 29] 29 #[.slice Ap T.proof.length capp, .slice (some ⟨w9.heap.size, 0, none⟩) 1 1]).run Try.prog (w9.drew.alloc (.cells #[.int .i64 (wi : Int), .int .i64 (wo : Int), .int .i64 (a : Int)] 55)) = .ok (.slice A3 n3 c3) w3 := hrun3
            have HRun3 := Lib.hid hrun3'
            have k2a : (w9.alloc (.cells #[.int .i64 (wi : Int), .int .i64 (wo : Int), .int .i64 (a : Int)] 55)).cell? ⟨B.sp, 2, none⟩ = some (.slice Ap T.proof.length capp) := (cell_old _ _ _ _ HS9.out.sp_lt).trans k2
            have k2b : w3.cell? ⟨B.sp, 2, none⟩ = some (.slice Ap T.proof.length capp) := hg3.cell k2 (fun e => HS9.out.op _ e (.inl rfl))
            have fz2 : w3.frozen? ⟨B.sp, 2, none⟩ = false := (frozen_of (hg3.block _ HS9.out.drew.sp_lt (fun e => HS9.out.op _ e (.inl rfl)))).trans (HS9.out.drew.fz 2)
            have HTr3 : Hid (Tr B va (.slice Ap T.proof.length capp) SA va (.slice A3 n3 c3) SA w9 (w3.setCell ⟨B.sp, 2, none⟩ (.slice A3 n3 c3))) := Lib.hid ⟨((Chg.drew _ _).trans (hg3.mono (fun k e => .inr (.inr (.inr (.inr (.inr e))))))).trans (Chg.setCell (p := ⟨B.sp, 2, none⟩) (.inl rfl) _), fun _ => .inl, ho3, fun _ => .inl⟩
            have HS3 := Lib.hid hS3
            clear hrun3 hrun3' hg3 hS3 ho3
            go_upto_region 11 with fail
            go_region_law
              (first
                | (rw [if_pos (by rfl)]
                   refine wp_append_run _ _ _ rfl _ _ rfl rfl _ _ HRun3.out ?_)
                | (go_simp
                   go_at_call 35
                   (with_reducible refine (HAt.out _).mono ?_)
                   rintro e w10 ⟨rfl, rfl⟩)
                | fail)
            all_goals
              generalize hW12 : w3.setCell ⟨B.sp, 2, none⟩ (.slice A3 n3 c3) = W12 at HS3 HTr3 ⊢
              have hd12 : C kI (fun k => w.heap.size ≤ k ∧ k < w9.heap.size) W12 A9 d := HD9.out.chg HTr3.out.chg (fun k hk _ e => by
                have hq := HLow.out k hk.1
                rcases e with e | e | e | e | e | e
                · exact hq.1 (.inl e)
                · exact hq.1 (.inr (.inr (.inl e)))
                · exact hq.1 (.inr (.inr (.inr (.inl e))))
                · exact hq.1 (.inr (.inr (.inr (.inr (.inl e)))))
                · exact hq.2.1 e
                · exact hq.2.2 e)
              obtain ⟨A4, n4, c4, w4, SA4, hrun4, hn4, hg4, hsa4, hS4, ho4⟩ := HS3.out.pushAll hB hd12 HDl.out (n0 := w.heap.size) (fun k hk => ⟨hk.1, fun e => (HTr3.out.op k e).elim (HLow.out k hk.1).2.2 (fun e2 => by omega), (HLow.out k hk.1).2.1, (HLow.out k hk.1).1⟩) (Nat.le_trans HN0.out HTr3.out.chg.size) (show T.all.length ≤ 90000000 by omega)
              have HTr4 := Lib.hid ((HTr9.out.trans HTr3.out).last (va4 := .slice A4 n4 c4) ((hg4.mono (fun k e => .inr e)).trans (Chg.setCell (T := fun k => k = B.sp ∨ va.ownBlock = some k) (p := ⟨B.sp, 0, none⟩) (.inl rfl) (.slice A4 n4 c4))) ho4 hsa4)
              have hk0 := HS3.out.k0
              rw [e1] at hk0
              rw [e1] at hrun4
              have hk0b : w4.cell? ⟨B.sp, 0, none⟩ = some (.slice (some ⟨g1, o1, none⟩) T.all.length c1) := hg4.cell hk0 (fun e => (HS3.out.oa _ e).1 (.inl rfl))
              have hf0 : w4.frozen? ⟨B.sp, 0, none⟩ = false := (frozen_of (hg4.block _ HS3.out.sp_lt (fun e => (HS3.out.oa _ e).1 (.inl rfl)))).trans (HS3.out.fz 0)
              have hk0c := hS4.k0
              have HRun4 := Lib.hid hrun4
              have HS4 := Lib.hid hS4
              subst hn4
              have hwn : IntKind.i64.wrap (((T.all.length + 1 : Nat) : Int) - 1) = (T.all.length : Int) := by rw [IntKind.wrap_i64]; omega
              clear hd12 hrun4 hg4 hsa4 hS4 ho4 hW12 k0 k2 k2a k2b fz2 HRun3 hpl
              go_wp2_with (at_builtin; refine G.wpList_append_run rfl _ _ _ rfl _ _ rfl rfl _ _ HRun4.out ?_)
              go_ret
              exact ⟨rfl, _, _, SA4, HS4.out, by have q := HTr4.out; rw [e1] at q; exact q⟩
      -- NEG
      · have hd : decide (0 < x) = false := decide_eq_false hpos
        have hres := HRb.out
        simp only [if_neg hpos] at hres
        have HRb := Lib.hid hres
        have HRq := Lib.hid (fun W hb => (HRes.out.2 W hb).mono (R' := fun e w' => ∃ A c bb, e = .returned (.tuple #[.slice A ((resB cb ca (x.natAbs : Int)).getD []).length c, .bool bb]) ∧ Mine kI W.heap.size NoB w' (.slice A ((resB cb ca (x.natAbs : Int)).getD []).length c) ((resB cb ca (x.natAbs : Int)).getD []) ∧ Below W.heap.size W w') (fun e w' h => h.any))
        generalize (resB cb ca (x.natAbs : Int)).getD [] = d at HRq HRb
        generalize x.natAbs = a at HRq HRb HAt
        clear hres HRes
        go_enter Try.func48, Try.ntmps48
        go_wp2_with fail
        refine (HH1'.out _ (Below.refl _ _)).mono ?_
        rintro e w5 ⟨rfl, hb5⟩
        obtain ⟨k0, q1, q2⟩ := HK.out _ hb5
        have HB5 := Lib.hid hb5
        clear hb5
        go_wp2_with fail
        refine (HH2'.out _ HB5.out).mono ?_
        rintro e w6 ⟨rfl, hb6⟩
        have hb6w := HB5.out.trans (hb6.mono HB5.out.size)
        clear k0 q1 q2
        obtain ⟨k0, q1, q2⟩ := HK.out _ hb6w
        have HB6 := Lib.hid hb6w
        clear hb6 hb6w HH1' HH2' HB5
        go_wp2_with fail
        refine (HHo.out _).mono ?_
        rintro e w7 ⟨rfl, rfl⟩
        rw [hd]
        go_upto_region 7 with fail
        have hs0 : Below w6.heap.size w6 w6.drew := Chg.below1 w6
        go_region_held3 (fun W' => W'.cell? ⟨B.sp, 0, none⟩ = some (.slice (some ⟨g1, o1, none⟩) T.all.length c1) ∧ W'.cell? ⟨g1, o1 + wi, none⟩ = some (.slice A1 ca.length cp1) ∧ W'.cell? ⟨g1, o1 + wo, none⟩ = some (.slice A2 cb.length cp2)) (go_keep)
          (first
            | (go_at_call 35
               (with_reducible refine (HAt.out _).mono ?_)
               rintro e w9 ⟨rfl, rfl⟩)
            | (go_at_call 42
               (with_reducible refine (HRq.out _ ?_).mono ?_)
               (exact HB6.out.trans (hs0.mono HB6.out.size))
               rintro e w9 ⟨A9, c9, bb, rfl, hm9, hb9⟩
               have hs9 := HB6.out.trans ((hs0.trans hb9).mono HB6.out.size)
               clear k0 q1 q2
               obtain ⟨k0, q1, q2⟩ := HK.out _ hs9))
        all_goals
          have S9 := HS.out.below hs9
          have hd9 : C kI (fun k => w.heap.size ≤ k ∧ k < w9.heap.size) w9 A9 d := hm9.read.2.2.bound.mono (fun k hk => ⟨hk.1.elim False.elim (fun e => Nat.le_trans HB6.out.size (hm9.base_le (show (Value.slice A9 d.length c9).ownBlock = some k by cases A9 with | none => cases e | some _ => simpa [Value.ownBlock] using e)).1), hk.2⟩)
          have hdl := hm9.read.2.1
          have k2 := S9.k2
          have k8 := S9.k8
          have fz8 := S9.fz 8
          have hpl : T.proof.length ≤ 9223372036854775807 := by omega
          have HLow : Hid (∀ k, w.heap.size ≤ k → ¬ B.H k ∧ va.ownBlock ≠ some k ∧ (Value.slice Ap T.proof.length capp).ownBlock ≠ some k) := Lib.hid (fun k hk => ⟨fun e => by have := HS.out.H_lt k e; omega, fun e => by have := (HS.out.all.base_le e).2; omega, fun e => by have := (HS.out.prf.base_le e).2; omega⟩)
          have HTr9 : Hid (Tr B va (.slice Ap T.proof.length capp) SA va (.slice Ap T.proof.length capp) SA w w9) := Lib.hid (Tr.fresh hs9)
          have HS9 := Lib.hid S9
          have HD9 := Lib.hid hd9
          have HDl := Lib.hid hdl
          have HN0 := Lib.hid hs9.size
          clear q1 q2 hm9 hb9 hs0 hs9 HRq HK HB6 S9 hd9 hdl hop hoa HHa
          by_cases hfull : T.proof.length = 20000
          · have heq : ((T.proof.length : Int) == 20000) = true := by rw [hfull]; rfl
            have hres := HRb.out
            rw [if_pos hfull] at hres
            subst hres
            clear hfull HRb
            have HSn := Lib.hid (HS9.out.setTr hB 7)
            go_wp2
            go_ret
            exact ⟨rfl, va, _, SA, HSn.out, HTr9.out.trans (Tr.own (Chg.setCell (T := fun k => k = B.sp) (p := ⟨B.sp, 8, none⟩) rfl _))⟩
          · have heq : ((T.proof.length : Int) == 20000) = false := beq_eq_false_iff_ne.2 (by omega)
            have hres := HRb.out
            rw [if_neg hfull] at hres
            subst hres
            clear hfull HRb k8 fz8
            obtain ⟨A3, n3, c3, w3, hrun3, hg3, hS3, ho3⟩ := HS9.out.drew.pushStep hB (wo : Int) (wi : Int) (a : Int) (by omega)
            have hrun3' : (Builtin.append_ #[29, 29] 29 #[.slice Ap T.proof.length capp, .slice (some ⟨w9.heap.size, 0, none⟩) 1 1]).run Try.prog (w9.drew.alloc (.cells #[.int .i64 (wo : Int), .int .i64 (wi : Int), .int .i64 (a : Int)] 55)) = .ok (.slice A3 n3 c3) w3 := hrun3
            have HRun3 := Lib.hid hrun3'
            have k2a : (w9.alloc (.cells #[.int .i64 (wo : Int), .int .i64 (wi : Int), .int .i64 (a : Int)] 55)).cell? ⟨B.sp, 2, none⟩ = some (.slice Ap T.proof.length capp) := (cell_old _ _ _ _ HS9.out.sp_lt).trans k2
            have k2b : w3.cell? ⟨B.sp, 2, none⟩ = some (.slice Ap T.proof.length capp) := hg3.cell k2 (fun e => HS9.out.op _ e (.inl rfl))
            have fz2 : w3.frozen? ⟨B.sp, 2, none⟩ = false := (frozen_of (hg3.block _ HS9.out.drew.sp_lt (fun e => HS9.out.op _ e (.inl rfl)))).trans (HS9.out.drew.fz 2)
            have HTr3 : Hid (Tr B va (.slice Ap T.proof.length capp) SA va (.slice A3 n3 c3) SA w9 (w3.setCell ⟨B.sp, 2, none⟩ (.slice A3 n3 c3))) := Lib.hid ⟨((Chg.drew _ _).trans (hg3.mono (fun k e => .inr (.inr (.inr (.inr (.inr e))))))).trans (Chg.setCell (p := ⟨B.sp, 2, none⟩) (.inl rfl) _), fun _ => .inl, ho3, fun _ => .inl⟩
            have HS3 := Lib.hid hS3
            clear hrun3 hrun3' hg3 hS3 ho3
            go_upto_region 11 with fail
            go_region_law
              (first
                | (rw [if_pos (by rfl)]
                   refine wp_append_run _ _ _ rfl _ _ rfl rfl _ _ HRun3.out ?_)
                | (go_simp
                   go_at_call 35
                   (with_reducible refine (HAt.out _).mono ?_)
                   rintro e w10 ⟨rfl, rfl⟩)
                | fail)
            all_goals
              generalize hW12 : w3.setCell ⟨B.sp, 2, none⟩ (.slice A3 n3 c3) = W12 at HS3 HTr3 ⊢
              have hd12 : C kI (fun k => w.heap.size ≤ k ∧ k < w9.heap.size) W12 A9 d := HD9.out.chg HTr3.out.chg (fun k hk _ e => by
                have hq := HLow.out k hk.1
                rcases e with e | e | e | e | e | e
                · exact hq.1 (.inl e)
                · exact hq.1 (.inr (.inr (.inl e)))
                · exact hq.1 (.inr (.inr (.inr (.inl e))))
                · exact hq.1 (.inr (.inr (.inr (.inr (.inl e)))))
                · exact hq.2.1 e
                · exact hq.2.2 e)
              obtain ⟨A4, n4, c4, w4, SA4, hrun4, hn4, hg4, hsa4, hS4, ho4⟩ := HS3.out.pushAll hB hd12 HDl.out (n0 := w.heap.size) (fun k hk => ⟨hk.1, fun e => (HTr3.out.op k e).elim (HLow.out k hk.1).2.2 (fun e2 => by omega), (HLow.out k hk.1).2.1, (HLow.out k hk.1).1⟩) (Nat.le_trans HN0.out HTr3.out.chg.size) (show T.all.length ≤ 90000000 by omega)
              have HTr4 := Lib.hid ((HTr9.out.trans HTr3.out).last (va4 := .slice A4 n4 c4) ((hg4.mono (fun k e => .inr e)).trans (Chg.setCell (T := fun k => k = B.sp ∨ va.ownBlock = some k) (p := ⟨B.sp, 0, none⟩) (.inl rfl) (.slice A4 n4 c4))) ho4 hsa4)
              have hk0 := HS3.out.k0
              rw [e1] at hk0
              rw [e1] at hrun4
              have hk0b : w4.cell? ⟨B.sp, 0, none⟩ = some (.slice (some ⟨g1, o1, none⟩) T.all.length c1) := hg4.cell hk0 (fun e => (HS3.out.oa _ e).1 (.inl rfl))
              have hf0 : w4.frozen? ⟨B.sp, 0, none⟩ = false := (frozen_of (hg4.block _ HS3.out.sp_lt (fun e => (HS3.out.oa _ e).1 (.inl rfl)))).trans (HS3.out.fz 0)
              have hk0c := hS4.k0
              have HRun4 := Lib.hid hrun4
              have HS4 := Lib.hid hS4
              subst hn4
              have hwn : IntKind.i64.wrap (((T.all.length + 1 : Nat) : Int) - 1) = (T.all.length : Int) := by rw [IntKind.wrap_i64]; omega
              clear hd12 hrun4 hg4 hsa4 hS4 ho4 hW12 k0 k2 k2a k2b fz2 HRun3 hpl
              go_wp2_with (at_builtin; refine G.wpList_append_run rfl _ _ _ rfl _ _ rfl rfl _ _ HRun4.out ?_)
              go_ret
              exact ⟨rfl, _, _, SA4, HS4.out, by have q := HTr4.out; rw [e1] at q; exact q⟩
      -- END
    · have hres := HRb.out
      rw [if_neg (fun e => e m1), if_pos m2] at hres
      subst hres
      have HH2' := Lib.hid (fun W (hb : Below w.heap.size w W) => by have := HH2.out W hb; rw [decide_eq_false m2] at this; exact this)
      clear HH1 HH2 m1 m2 HRes HRb HHa e1
      go_enter Try.func48, Try.ntmps48
      go_wp2_with fail
      refine (HH1'.out _ (Below.refl _ _)).mono ?_
      rintro e w5 ⟨rfl, hb5⟩
      obtain ⟨k0, q1, q2⟩ := HK.out _ hb5
      have HB5 := Lib.hid hb5
      clear hb5
      go_wp2_with fail
      refine (HH2'.out _ HB5.out).mono ?_
      rintro e w6 ⟨rfl, hb6⟩
      have HB6 := Lib.hid (HB5.out.trans (hb6.mono HB5.out.size))
      clear hb6
      go_wp2
      go_ret
      exact ⟨rfl, va, vp, SA, HS.out.below HB6.out, Tr.fresh HB6.out⟩
  · have hres := HRb.out
    rw [if_pos m1] at hres
    subst hres
    have HH1' := Lib.hid (fun W (hb : Below w.heap.size w W) => by have := HH1.out W hb; rw [decide_eq_false m1] at this; exact this)
    clear HH1 HH2 m1 HRes HRb HHa e1
    go_enter Try.func48, Try.ntmps48
    go_wp2_with fail
    refine (HH1'.out _ (Below.refl _ _)).mono ?_
    rintro e w5 ⟨rfl, hb5⟩
    have HB5 := Lib.hid hb5
    clear hb5
    go_wp2
    go_ret
    exact ⟨rfl, va, vp, SA, HS.out.below HB5.out, Tr.fresh HB5.out⟩
end Go.Proofs.Ytggfjfmgclcnlaa.Zb
