/- Walks: back, Limit, whether a clause is empty; Can of the reference. -/
import Derived.Test.YtggfjfmgclcnlaaVpr
import Derived.Laws.BitsLemmas
namespace Go.Proofs.Ytggfjfmgclcnlaa.Zb
open Go Go.RowKit Go.Shelf Go.Proofs.Ytggfjfmgclcnlaa.K Go.Proofs.Ytggfjfmgclcnlaa.G Go.Proofs.Ytggfjfmgclcnlaa.Z Go.Proofs.Ytggfjfmgclcnlaa.Ix
set_option linter.unusedSimpArgs false
set_option linter.unusedVariables false

theorem infoSr : (Try.prog.info? 67).map (fun i => (i.zero, i.size, i.bytes)) = some (some (.agg #[.int .i64 0, .int .i64 0, .int .i64 0]), 3, 24) := by kernel_rfl
set_option maxRecDepth 100000 in
set_option maxHeartbeats 2000000 in
theorem back_calls {S : Nat → Prop} {A : Option Addr} {cl : Nat} {l : List Stp} {w : World} (hC : C kS S w A l) (hcl : l.length ≤ cl) (hl : l.length ≤ 1000000) :
    Calls Try.prog 17 #[.slice A l.length cl] w fun e w' => ∃ A' c', e = .returned (.slice A' l.length c') ∧ Mine kS w.heap.size NoB w' (.slice A' l.length c') l ∧ Below w.heap.size w w' := by
  have HC := Lib.hid hC
  have hlm : l.length ≤ 9223372036854775807 := by omega
  clear hC
  go_enter Try.func17, Try.ntmps17
  go_wp2_with fail
  have HX0 : Hid (Mine kS w.heap.size NoB w (.slice none 0 0) (l.take 0) ∧ Below w.heap.size w w) := Lib.hid ⟨by rw [List.take_zero]; exact Mine.nil .., Below.refl _ _⟩
  go_loopg [3, 8] l.length (fun gg v3 v8 wr => ∃ (i : Nat) (A2 : Option Addr) (c2 : Nat), v3 = .slice A2 i c2 ∧ v8 = .int .i64 i ∧ i ≤ l.length ∧ l.length - i ≤ gg ∧ Hid (Mine kS w.heap.size NoB wr (.slice A2 i c2) (l.take i) ∧ Below w.heap.size w wr))
  case atStart => exact ⟨0, none, 0, rfl, rfl, by omega, by omega, HX0⟩
  case round =>
    clear HX0
    obtain ⟨i, A2, c2, rfl, rfl, hi, hg, HX⟩ := hrel
    by_cases hlt : i < l.length
    · have hltz : (i : Int) < (l.length : Int) := by omega
      have hi0 : (0 : Int) ≤ (i : Int) := by omega
      have Hlt := Lib.hid hlt
      obtain ⟨b6, o6, rfl, hb6, p0, p1, p2⟩ := step_at (HC.out.below HX.out.2) i hlt
      obtain ⟨hm0, hbl⟩ := HX.out
      have htk : l.take i ++ [l[i]'hlt] = l.take (i + 1) := List.take_append_getElem hlt
      generalize l[i]'hlt = s at *
      obtain ⟨x, y, z⟩ := s
      dsimp only at p0 p1 p2
      obtain ⟨W1, hW1⟩ : ∃ W1, wr.alloc (.cells #[.int .i64 x, .int .i64 y, .int .i64 z] 55) = W1 := ⟨_, rfl⟩
      have hb1 : Below wr.heap.size wr W1 := by rw [← hW1]; exact (Below.refl _ _).alloc (Nat.le_refl _) _
      have hb2 : Below W1.heap.size W1 (W1.alloc (.cells #[.int .i64 x, .int .i64 y, .int .i64 z] 67)) := (Below.refl _ _).alloc (Nat.le_refl _) _
      have hb12 := hb1.trans (hb2.mono hb1.size)
      obtain ⟨A', n', c', w', hrun, hn', hm, hgr, ho⟩ := append_own (c := 1) (S := Any) (S' := fun k => k = W1.heap.size) (ys := [(x, y, z)]) (A := some ⟨W1.heap.size, 0, none⟩) Try.underlying41 infoSr rfl (by decide) (by decide) ((hm0.below hb12).mono (fun _ h => h.elim)) (one_stp (alloc_new W1 _) rfl)
        (fun k hk => ⟨trivial, fun e => by have := (hm0.base_le e).2; have := hb1.size; omega⟩) (by rw [List.length_take]; simp; omega) (Nat.le_trans hbl.size hb12.size)
      have hbw : Below w.heap.size w w' := hbl.trans ((hb12.mono hbl.size).trans ((Chg.grown hgr (fun k e => .inl e) (T := fun k => (Value.slice A2 i c2).ownBlock = some k)).below (Nat.le_trans hbl.size hb12.size) (fun k e => (hm0.base_le e).1)))
      rw [htk] at hm hn'
      rw [List.length_take, Nat.min_eq_left Hlt.out] at hn'
      subst hn'
      have HX2 := Lib.hid (And.intro (mine_stp hm) hbw)
      have HRun := Lib.hid hrun
      have d0 : W1.cell? ⟨wr.heap.size, 0, none⟩ = some (.int .i64 x) := by rw [← hW1]; exact cells_at wr #[.int .i64 x, .int .i64 y, .int .i64 z] _ _ 0 rfl
      have d1 : W1.cell? ⟨wr.heap.size, 1, none⟩ = some (.int .i64 y) := by rw [← hW1]; exact cells_at wr #[.int .i64 x, .int .i64 y, .int .i64 z] _ _ 1 rfl
      have d2 : W1.cell? ⟨wr.heap.size, 2, none⟩ = some (.int .i64 z) := by rw [← hW1]; exact cells_at wr #[.int .i64 x, .int .i64 y, .int .i64 z] _ _ 2 rfl
      clear hb1 hb2 hb12 hm0 hbl hrun hm hgr ho hbw HX hlt htk
      go_upto_region 5 with fail
      clear hW1
      go_wp2_with (at_builtin; refine G.wpList_append_run rfl _ _ _ rfl _ _ rfl rfl _ _ HRun.out ?_)
      go_roundg (l.length - (i + 1))
      case measure => have := Hlt.out; omega
      case rel => exact ⟨i + 1, A', c', rfl, by go_num, Hlt.out, Nat.le_refl _, HX2⟩
    · have hltz : ¬ (i : Int) < (l.length : Int) := by omega
      have hie : i = l.length := by omega
      have hfin : Hid (Mine kS w.heap.size NoB wr (.slice A2 l.length c2) l ∧ Below w.heap.size w wr) := Lib.hid (by have := HX.out; rw [hie, List.take_length] at this; exact this)
      subst hie
      clear HX hlt
      go_wp2
      go_ret
      exact ⟨A2, c2, rfl, hfin.out.1, hfin.out.2⟩
end Go.Proofs.Ytggfjfmgclcnlaa.Zb
namespace Go.Proofs.Ytggfjfmgclcnlaa.Zb
open Go Go.RowKit Go.Shelf Go.Proofs.Ytggfjfmgclcnlaa.K Go.Proofs.Ytggfjfmgclcnlaa.G Go.Proofs.Ytggfjfmgclcnlaa.Z
set_option linter.unusedSimpArgs false
set_option linter.unusedVariables false

theorem int_push {base : Nat} {W : World} {A : Option Addr} {n c : Nat} {out : List Int} (h : Mine kI base NoB W (.slice A n c) out) (hn : out.length = n) (hb : base ≤ W.heap.size) (hs : n ≤ 100000) (x : Int) :
    ∃ A' c' w1, (Builtin.append_ #[44, 44] 44 #[.slice A n c, .slice (some ⟨W.heap.size, 0, none⟩) 1 1]).run Try.prog (W.alloc (.cells #[.int .i64 x] 3)) = .ok (.slice A' (n + 1) c') w1 ∧ Mine kI base NoB w1 (.slice A' (n + 1) c') (out ++ [x]) ∧ Below base W w1 := by
  have hwa : Below W.heap.size W (W.alloc (.cells #[.int .i64 x] 3)) := (Below.refl _ _).alloc (Nat.le_refl _) _
  obtain ⟨A', n', c', w1, hrun, hn', hm, hg, ho⟩ := append_own (c := 1) (S := Any) (S' := fun k => k = W.heap.size) Try.underlying44 infoI rfl (by decide) (by decide) ((h.below hwa).mono (fun _ h => h.elim)) (one_int (alloc_new W (.cells #[.int .i64 x] 3)) rfl)
    (fun k hk => ⟨trivial, fun e => by have := (h.base_le e).2; omega⟩) (by simp; omega) (Nat.le_trans hb hwa.size)
  rw [List.length_append, hn] at hn'
  have hn2 : n' = n + 1 := hn'
  subst hn2
  exact ⟨A', c', w1, hrun, mine_nob (d := kI) hm, (hwa.mono hb).trans ((Chg.grown hg (fun k e => .inl e) (T := fun k => (Value.slice A n c).ownBlock = some k)).below (Nat.le_trans hb hwa.size) (fun k e => (h.base_le e).1))⟩
set_option maxRecDepth 100000 in
set_option maxHeartbeats 1000000 in
theorem rhas_calls {S : Nat → Prop} {A : Option Addr} {c : Nat} {l : List Int} (x : Int) {w : World} (h : C kI S w A l) :
    Calls Try.prog 49 #[.slice A l.length c, .int .i64 x] w fun e w' => e = .returned (.bool (decide (x ∈ l))) ∧ w = w' := by
  have hlm : l.length ≤ 9223372036854775807 := by have := h.len; unfold maxLen at this; omega
  have HC := Lib.hid h
  have HR : Hid (decide (x ∈ l.drop 0) = decide (x ∈ l)) := Lib.hid (by rw [List.drop_zero])
  generalize decide (x ∈ l) = R at HR ⊢
  clear h
  go_enter Try.func49, Try.ntmps49
  go_wp2_with fail
  go_loopg [5] l.length (fun gg v5 wr => ∃ i : Nat, v5 = .int .i64 i ∧ i ≤ l.length ∧ l.length - i ≤ gg ∧ Hid (decide (x ∈ l.drop i) = R) ∧ w = wr)
  case atStart => exact ⟨0, rfl, by omega, by omega, HR, rfl⟩
  case round =>
    clear HR
    obtain ⟨i, rfl, hi, hg, HR, rfl⟩ := hrel
    by_cases hlt : i < l.length
    · have hltz : (i : Int) < (l.length : Int) := by omega
      have hi0 : (0 : Int) ≤ (i : Int) := by omega
      have Hlt := Lib.hid hlt
      obtain ⟨b1, o1, rfl, hb1, q1⟩ := int_at HC.out i hlt
      have hr := HR.out
      rw [List.drop_eq_getElem_cons hlt] at hr
      generalize l[i]'hlt = y at *
      clear HR hlt
      by_cases e1 : y = x
      · have g1 : (y == x) = true := beq_iff_eq.2 e1
        have HR : Hid (true = R) := Lib.hid (by rw [← hr, e1]; simp)
        clear hr e1
        go_wp2
        go_ret
        exact ⟨by rw [← HR.out]; rfl, rfl⟩
      · have g1 : (y == x) = false := beq_eq_false_iff_ne.2 e1
        have HR : Hid (decide (x ∈ l.drop (i + 1)) = R) := Lib.hid (by rw [← hr]; simp only [List.mem_cons, show (x = y) = False from eq_false (fun h => e1 h.symm), false_or])
        clear hr e1
        go_wp2
        go_roundg (l.length - (i + 1))
        case measure => have := Hlt.out; omega
        case rel => exact ⟨i + 1, by go_num, Hlt.out, Nat.le_refl _, HR, rfl⟩
    · have hltz : ¬ (i : Int) < (l.length : Int) := by omega
      have hr := HR.out
      rw [List.drop_eq_nil_of_le (by omega)] at hr
      have HR : Hid (false = R) := Lib.hid (by rw [← hr]; simp)
      clear hr
      go_wp2
      go_ret
      exact ⟨by rw [← HR.out]; rfl, rfl⟩
def ptR (n : Int) (d : Bool) (out r : List Int) : List Int := out ++ (if d then r else putL n r)
def PtEnd (w : World) (R : List Int) (e : Ending) (w' : World) : Prop := ∃ A cp, e = .returned (.slice A R.length cp) ∧ Mine kI w.heap.size NoB w' (.slice A R.length cp) R ∧ Below w.heap.size w w'
def OwI (w : World) (v : Value) (out : List Int) (W : World) : Prop := Mine kI w.heap.size NoB W v out ∧ Below w.heap.size w W
theorem OwI.step {w W W' : World} {v : Value} {out : List Int} (h : OwI w v out W) (hb : Below W.heap.size W W') : OwI w v out W' := ⟨h.1.below hb, h.2.trans (hb.mono h.2.size)⟩
theorem OwI.push {w W : World} {A : Option Addr} {n c : Nat} {out : List Int} (h : OwI w (.slice A n c) out W) (hn : out.length = n) (hs : n ≤ 100000) (x : Int) :
    ∃ A' c' w1, (Builtin.append_ #[44, 44] 44 #[.slice A n c, .slice (some ⟨W.heap.size, 0, none⟩) 1 1]).run Try.prog (W.alloc (.cells #[.int .i64 x] 3)) = .ok (.slice A' (n + 1) c') w1 ∧ OwI w (.slice A' (n + 1) c') (out ++ [x]) w1 := by
  obtain ⟨A', c', w1, h1, h2, h3⟩ := int_push h.1 hn h.2.size hs x
  exact ⟨A', c', w1, h1, h2, h.2.trans h3⟩
theorem below_dn (w : World) (k : Nat) : Below w.heap.size w (w.drewN k) := ⟨rfl, rfl, rfl, Nat.le_refl _, fun _ _ => rfl⟩
set_option maxRecDepth 100000 in
set_option maxHeartbeats 4000000 in
theorem rput_calls {S : Nat → Prop} {A : Option Addr} {ca : Nat} {c : List Int} (n : Int) {w : World} (hc : C kI S w A c) (hl : c.length ≤ 1000) (hn : -1000000000 ≤ n ∧ n ≤ 1000000000) (hlit : ∀ x ∈ c, -1000000000 ≤ x ∧ x ≤ 1000000000) :
    Calls Try.prog 50 #[.slice A c.length ca, .int .i64 n] w (PtEnd w (putL n c)) := by
  have hlm : c.length ≤ 9223372036854775807 := by omega
  have HC := Lib.hid hc
  have HL := Lib.hid hlit
  have HAn := Lib.hid (fun W => (abs_calls n W hn.1 hn.2).mono (fun _ _ h => And.intro h.1 h.2.symm))
  have HR : Hid (ptR n false [] (c.drop 0) = putL n c) := Lib.hid (by rw [List.drop_zero]; rfl)
  generalize putL n c = R at HR ⊢
  have HX0 : Hid (OwI w (.slice (some ⟨w.heap.size, 0, none⟩) 0 0) [] (w.alloc (.cells #[] 3))) := Lib.hid ⟨mine_empty kI (Nat.le_refl _) (by simp), (Below.refl _ _).alloc (Nat.le_refl _) _⟩
  obtain ⟨a, ha⟩ : ∃ a : Nat, n.natAbs = a := ⟨_, rfl⟩
  rw [ha] at HAn
  have Ha := Lib.hid ha
  clear hc hlit hn ha
  go_enter Try.func50, Try.ntmps50
  go_wp2_with fail
  go_loopg [5, 6, 7] c.length (fun gg v5 v6 v7 wr => ∃ (i : Nat) (out : List Int) (d : Bool) (A5 : Option Addr) (c5 n5 : Nat), v5 = .slice A5 n5 c5 ∧ v6 = .bool d ∧ v7 = .int .i64 i ∧ i ≤ c.length ∧ c.length - i ≤ gg ∧ out.length = n5 ∧ (n5 ≤ i + 1 ∧ (d = false → n5 ≤ i)) ∧ Hid (ptR n d out (c.drop i) = R) ∧ Hid (OwI w (.slice A5 n5 c5) out wr))
  case atStart => exact ⟨0, [], false, _, 0, 0, rfl, rfl, rfl, by omega, by omega, rfl, ⟨by omega, fun _ => Nat.le_refl _⟩, HR, HX0⟩
  case round =>
    clear HR HX0
    obtain ⟨i, out, d, A5, c5, n5, rfl, rfl, rfl, hi, hg, ho, ⟨hn5, hn6⟩, HR, HX⟩ := hrel
    by_cases hlt : i < c.length
    · have hltz : (i : Int) < (c.length : Int) := by omega
      have hi0 : (0 : Int) ≤ (i : Int) := by omega
      have Hlt := Lib.hid hlt
      obtain ⟨b1, o1, rfl, hbw, q0⟩ := int_at HC.out i hlt
      have q1 := (HX.out.2.cell (p := ⟨b1, o1 + i, none⟩) hbw).trans q0
      have hx := HL.out _ (List.getElem_mem hlt)
      have hr := HR.out
      rw [List.drop_eq_getElem_cons hlt] at hr
      generalize c[i]'hlt = x at *
      clear HR hlt
      cases d with
      | true =>
        have HR : Hid (ptR n true (out ++ [x]) (c.drop (i + 1)) = R) := Lib.hid (by rw [← hr]; simp [ptR])
        have Ho : Hid ((out ++ [x]).length = n5 + 1) := Lib.hid (by rw [List.length_append, ho]; rfl)
        clear hr
        go_upto_region 6 with fail
        go_quiet (fail)
        have hxq := HX.out.step (below_dn wr nq)
        have q2 : (wr.drewN nq).cell? ⟨b1, o1 + i, none⟩ = some (.int .i64 x) := q1
        generalize wr.drewN nq = wq at *
        obtain ⟨A', c', w1, hrun, hm⟩ := hxq.push ho (by omega) x
        have HRun := Lib.hid hrun
        have HX2 := Lib.hid hm
        clear hrun hm hxq HX q1
        go_wp2_with (at_builtin; refine G.wpList_append_run rfl _ _ _ rfl _ _ rfl rfl _ _ HRun.out ?_)
        go_roundg (c.length - (i + 1))
        case measure => have := Hlt.out; omega
        case rel => exact ⟨i + 1, out ++ [x], true, A', c', n5 + 1, rfl, rfl, by go_num, Hlt.out, Nat.le_refl _, Ho.out, ⟨by omega, fun h => by cases h⟩, HR, HX2⟩
      | false =>
        have HAx := Lib.hid (fun W => (abs_calls x W hx.1 hx.2).mono (fun _ _ h => And.intro h.1 h.2.symm))
        obtain ⟨b, hb⟩ : ∃ b : Nat, x.natAbs = b := ⟨_, rfl⟩
        rw [hb] at HAx
        have hn7 := hn6 rfl
        clear hn6
        by_cases g : a < b
        · have g2 : (a : Int) < (b : Int) := by omega
          have g1 : decide ((a : Int) < (b : Int)) = true := decide_eq_true (by omega)
          have hlt2 : atm n < atm x := by rw [atm_abs, atm_abs, hb, Ha.out]; omega
          have HQ : Hid (∀ W, Below w.heap.size w W → W.cell? ⟨b1, o1 + i, none⟩ = some (.int .i64 x)) := Lib.hid (fun W hb => (hb.cell (p := ⟨b1, o1 + i, none⟩) hbw).trans q0)
          have HR : Hid (ptR n true ((out ++ [n]) ++ [x]) (c.drop (i + 1)) = R) := Lib.hid (by rw [← hr]; simp [ptR, putL, hlt2])
          have Ho : Hid ((out ++ [n] ++ [x]).length = n5 + 1 + 1) := Lib.hid (by rw [List.length_append, List.length_append, ho]; rfl)
          have Ho1 : Hid ((out ++ [n]).length = n5 + 1) := Lib.hid (by rw [List.length_append, ho]; rfl)
          clear hr hb g
          go_upto_region 6 with fail
          go_quiet ((go_at_call 33; first | exact Calls.quiet_of_same (HAn.out _) | exact Calls.quiet_of_same (HAx.out _)))
          have hxq := HX.out.step (below_dn wr nq)
          have q2 : (wr.drewN nq).cell? ⟨b1, o1 + i, none⟩ = some (.int .i64 x) := q1
          generalize wr.drewN nq = wq at *
          obtain ⟨A', c', w1, hrun, hm⟩ := hxq.push ho (by omega) n
          obtain ⟨A2', c2', w2, hrun2, hm2⟩ := hm.push Ho1.out (by omega) x
          have q3 := HQ.out w1 hm.2
          have HRun := Lib.hid hrun
          have HRun2 := Lib.hid hrun2
          have HX2 := Lib.hid hm2
          clear hrun hrun2 hm hm2 hxq HX q1 q0
          go_wp2_with (first | (at_builtin; refine G.wpList_append_run rfl _ _ _ rfl _ _ rfl rfl _ _ HRun.out ?_) | (at_builtin; refine G.wpList_append_run rfl _ _ _ rfl _ _ rfl rfl _ _ HRun2.out ?_))
          go_roundg (c.length - (i + 1))
          case measure => have := Hlt.out; omega
          case rel => exact ⟨i + 1, out ++ [n] ++ [x], true, A2', c2', n5 + 1 + 1, rfl, rfl, by go_num, Hlt.out, Nat.le_refl _, Ho.out, ⟨by omega, fun h => by cases h⟩, HR, HX2⟩
        · have g2 : ¬ (a : Int) < (b : Int) := by omega
          have g1 : decide ((a : Int) < (b : Int)) = false := decide_eq_false (by omega)
          have hlt2 : ¬ atm n < atm x := by rw [atm_abs, atm_abs, hb, Ha.out]; omega
          have HR : Hid (ptR n false (out ++ [x]) (c.drop (i + 1)) = R) := Lib.hid (by rw [← hr]; simp [ptR, putL, hlt2])
          have Ho : Hid ((out ++ [x]).length = n5 + 1) := Lib.hid (by rw [List.length_append, ho]; rfl)
          clear hr hb g
          go_upto_region 6 with fail
          go_quiet ((go_at_call 33; first | exact Calls.quiet_of_same (HAn.out _) | exact Calls.quiet_of_same (HAx.out _)))
          have hxq := HX.out.step (below_dn wr nq)
          have q2 : (wr.drewN nq).cell? ⟨b1, o1 + i, none⟩ = some (.int .i64 x) := q1
          generalize wr.drewN nq = wq at *
          obtain ⟨A', c', w1, hrun, hm⟩ := hxq.push ho (by omega) x
          have HRun := Lib.hid hrun
          have HX2 := Lib.hid hm
          clear hrun hm hxq HX q1
          go_wp2_with (at_builtin; refine G.wpList_append_run rfl _ _ _ rfl _ _ rfl rfl _ _ HRun.out ?_)
          go_roundg (c.length - (i + 1))
          case measure => have := Hlt.out; omega
          case rel => exact ⟨i + 1, out ++ [x], false, A', c', n5 + 1, rfl, rfl, by go_num, Hlt.out, Nat.le_refl _, Ho.out, ⟨by omega, fun _ => by omega⟩, HR, HX2⟩
    · have hltz : ¬ (i : Int) < (c.length : Int) := by omega
      have hr := HR.out
      rw [List.drop_eq_nil_of_le (by omega)] at hr
      clear HR
      cases d with
      | true =>
        have HR : Hid (out = R) := Lib.hid (by rw [← hr]; simp [ptR])
        clear hr
        go_wp2
        go_ret
        obtain rfl := HR.out
        subst ho
        exact ⟨A5, c5, rfl, HX.out.1, HX.out.2⟩
      | false =>
        have HR : Hid (out ++ [n] = R) := Lib.hid (by rw [← hr]; simp [ptR, putL])
        obtain ⟨A', c', w1, hrun, hm⟩ := HX.out.push ho (by omega) n
        have HRun := Lib.hid hrun
        have HX2 := Lib.hid hm
        clear hr hrun hm
        go_wp2_with (at_builtin; refine G.wpList_append_run rfl _ _ _ rfl _ _ rfl rfl _ _ HRun.out ?_)
        go_ret
        obtain rfl := HR.out
        subst ho
        exact ⟨A', c', by rw [List.length_append]; rfl, by have := HX2.out.1; rw [List.length_append]; exact this, HX2.out.2⟩
end Go.Proofs.Ytggfjfmgclcnlaa.Zb
namespace Go.Proofs.Ytggfjfmgclcnlaa.Zb
open Go Go.RowKit Go.Shelf Go.Proofs.Ytggfjfmgclcnlaa.K Go.Proofs.Ytggfjfmgclcnlaa.G Go.Proofs.Ytggfjfmgclcnlaa.Z
set_option linter.unusedSimpArgs false
set_option linter.unusedVariables false

theorem putL_len (n : Int) (c : Cls) : (putL n c).length = c.length + 1 := by rw [(putL_perm n c).length_eq, List.length_append]; rfl
set_option maxRecDepth 100000 in
set_option maxHeartbeats 4000000 in
theorem rres_calls (Sa Sb : Nat → Prop) (Aa Ab : Option Addr) (ca cb : Nat) (a b : List Int) (t : Int) (w : World) (ha : C kI Sa w Aa a) (hb : C kI Sb w Ab b) (ra : rightC a = true) (rb : rightC b = true) (ht2 : t ≤ 9223372036854775807) :
    Calls Try.prog 38 #[.slice Aa a.length ca, .slice Ab b.length cb, .int .i64 t] w (ResEnd w (resB a b t)) := by
  have la := right_len ra
  have lb := right_len rb
  have la' : a.length ≤ 9223372036854775807 := by omega
  have lb' : b.length ≤ 9223372036854775807 := by omega
  have HA := Lib.hid ha
  have HB := Lib.hid hb
  have H1 := Lib.hid (rhas_calls (c := ca) t ha)
  have H2 := Lib.hid (rhas_calls (c := cb) (-t) hb)
  have HLa : Hid (∀ x ∈ a, -1000000000 ≤ x ∧ x ≤ 1000000000) := Lib.hid (lit_small ra)
  have HLb : Hid (∀ x ∈ b, -1000000000 ≤ x ∧ x ≤ 1000000000) := Lib.hid (lit_small rb)
  generalize hR : resB a b t = R
  unfold resB at hR
  clear ha hb ra rb
  by_cases h1 : t < 1
  · rw [if_pos h1] at hR
    subst hR
    go_enter Try.func38, Try.ntmps38
    go_wp2
    go_ret2
    exact ⟨rfl, Below.refl _ _⟩
  · have h1' : 1 ≤ t := by omega
    have nt : IntKind.i64.wrap (-t) = -t := by rw [IntKind.wrap_i64]; omega
    rw [if_neg h1] at hR
    by_cases h2 : t ∈ a
    · rw [if_pos h2] at hR
      rw [decide_eq_true h2] at H1
      by_cases h3 : -t ∈ b
      · rw [if_pos h3] at hR
        rw [decide_eq_true h3] at H2
        obtain ⟨F, hF⟩ : ∃ F, a.filter (fun x => decide (x ≠ t)) = F := ⟨_, rfl⟩
        have hF0 : [] ++ (a.drop 0).filter (fun x => decide (x ≠ t)) = F := by rw [List.drop_zero]; exact hF
        have hFl : F.length ≤ 60 := by rw [← hF]; exact Nat.le_trans (List.length_filter_le ..) la
        have HFs : Hid (∀ x ∈ F, -1000000000 ≤ x ∧ x ≤ 1000000000) := Lib.hid (fun x hx => HLa.out x (by rw [← hF] at hx; exact (List.mem_filter.1 hx).1))
        rw [hF] at hR
        have HF := Lib.hid hF0
        have HR := Lib.hid hR
        have HX0 : Hid (OwI w (.slice (some ⟨w.heap.size, 0, none⟩) 0 0) [] (w.alloc (.cells #[] 3))) := Lib.hid ⟨mine_empty kI (Nat.le_refl _) (by simp), (Below.refl _ _).alloc (Nat.le_refl _) _⟩
        clear hF hF0 hR h2 h3 h1 HLa
        go_enter Try.func38, Try.ntmps38
        go_wp2_with fail
        refine H1.out.mono ?_
        rintro e w1 ⟨rfl, rfl⟩
        go_wp2_with fail
        refine H2.out.mono ?_
        rintro e w1 ⟨rfl, rfl⟩
        go_wp2_with fail
        go_loopg [8, 9] a.length (fun gg v8 v9 wr => ∃ (i : Nat) (out : List Int) (A8 : Option Addr) (n8 c8 : Nat), v8 = .slice A8 n8 c8 ∧ v9 = .int .i64 i ∧ i ≤ a.length ∧ a.length - i ≤ gg ∧ out.length = n8 ∧ n8 ≤ i ∧ Hid (out ++ (a.drop i).filter (fun x => decide (x ≠ t)) = F) ∧ Hid (OwI w (.slice A8 n8 c8) out wr))
        case atStart => exact ⟨0, [], _, 0, 0, rfl, rfl, by omega, by omega, rfl, Nat.le_refl _, HF, HX0⟩
        case round =>
          clear HF HX0
          obtain ⟨i, out, A8, n8, c8, rfl, rfl, hi, hg, ho, hn8, HF, HX⟩ := hrel
          by_cases hlt : i < a.length
          · have hltz : (i : Int) < (a.length : Int) := by omega
            have hi0 : (0 : Int) ≤ (i : Int) := by omega
            have Hlt := Lib.hid hlt
            obtain ⟨b1, o1, rfl, hb1, q1⟩ := int_at (HA.out.below HX.out.2) i hlt
            have hr := HF.out
            rw [List.drop_eq_getElem_cons hlt, List.filter_cons] at hr
            generalize a[i]'hlt = x at *
            clear HF hlt
            by_cases e1 : x = t
            · have g1 : (x != t) = false := by rw [e1]; exact bne_self_eq_false _
              rw [if_neg (by simp [e1])] at hr
              have HF := Lib.hid hr
              clear hr e1
              go_wp2
              go_roundg (a.length - (i + 1))
              case measure => have := Hlt.out; omega
              case rel => exact ⟨i + 1, out, A8, n8, c8, rfl, by go_num, Hlt.out, Nat.le_refl _, ho, by omega, HF, HX⟩
            · have g1 : (x != t) = true := bne_iff_ne.2 e1
              rw [if_pos (by simp [e1])] at hr
              have HF : Hid ((out ++ [x]) ++ (a.drop (i + 1)).filter (fun x => decide (x ≠ t)) = F) := Lib.hid (by rw [← hr, List.append_assoc]; rfl)
              obtain ⟨A', c', w1, hrun, hm⟩ := HX.out.push ho (by omega) x
              have Ho : Hid ((out ++ [x]).length = n8 + 1) := Lib.hid (by rw [List.length_append, ho]; rfl)
              have HRun := Lib.hid hrun
              have HX2 := Lib.hid hm
              clear hr e1 hrun hm HX
              go_wp2_with (at_builtin; refine G.wpList_append_run rfl _ _ _ rfl _ _ rfl rfl _ _ HRun.out ?_)
              go_roundg (a.length - (i + 1))
              case measure => have := Hlt.out; omega
              case rel => exact ⟨i + 1, out ++ [x], A', n8 + 1, c', rfl, by go_num, Hlt.out, Nat.le_refl _, Ho.out, by omega, HF, HX2⟩
          · have hltz : ¬ (i : Int) < (a.length : Int) := by omega
            have hr := HF.out
            rw [List.drop_eq_nil_of_le (by omega), List.filter_nil, List.append_nil] at hr
            subst hr
            subst ho
            have HQ : Hid (resF t out (b.drop 0) = R) := Lib.hid (by rw [List.drop_zero]; exact HR.out)
            clear HF HR hlt
            generalize wr = wo at *
            go_wp2_with fail
            go_loopg [8, 10] b.length (fun gg v8 v10 wr => ∃ (j : Nat) (ot : List Int) (A9 : Option Addr) (n9 c9 : Nat), v8 = .slice A9 n9 c9 ∧ v10 = .int .i64 j ∧ j ≤ b.length ∧ b.length - j ≤ gg ∧ ot.length = n9 ∧ n9 ≤ 60 + j ∧ Hid (resF t ot (b.drop j) = R) ∧ Hid (∀ x ∈ ot, -1000000000 ≤ x ∧ x ≤ 1000000000) ∧ Hid (OwI w (.slice A9 n9 c9) ot wr))
            case atStart => exact ⟨0, out, A8, _, c8, rfl, rfl, by omega, by omega, rfl, by omega, HQ, HFs, HX⟩
            case round =>
              clear HQ HFs HX
              obtain ⟨j, ot, A9, n9, c9, rfl, rfl, hj, hgj, hot, hn9, HQ, HO, HX⟩ := hrel
              by_cases hlt : j < b.length
              · have hltz : (j : Int) < (b.length : Int) := by omega
                have hj0 : (0 : Int) ≤ (j : Int) := by omega
                have Hlt := Lib.hid hlt
                obtain ⟨b1, o1, rfl, hbw, q0⟩ := int_at HB.out j hlt
                have q1 := (HX.out.2.cell (p := ⟨b1, o1 + j, none⟩) hbw).trans q0
                have hr := HQ.out
                rw [List.drop_eq_getElem_cons hlt, resF] at hr
                have hxl := HLb.out _ (List.getElem_mem hlt)
                generalize b[j]'hlt = x at *
                have hC9 := HX.out.1.read.2.2
                have Hh1 := Lib.hid (rhas_calls (c := c9) x hC9)
                have Hh2 := Lib.hid (rhas_calls (c := c9) (-x) hC9)
                have HPt := Lib.hid (rput_calls (ca := c9) x hC9 (by omega) hxl HO.out)
                rw [hot] at Hh1 Hh2 HPt
                have nx : IntKind.i64.wrap (-x) = -x := by rw [IntKind.wrap_i64]; omega
                clear HQ hlt hC9
                by_cases e1 : x = -t
                · have g1 : (x == -t) = true := beq_iff_eq.2 e1
                  rw [if_pos (.inl e1)] at hr
                  have HQ := Lib.hid hr
                  clear hr e1
                  go_wp2
                  go_roundg (b.length - (j + 1))
                  case measure => have := Hlt.out; omega
                  case rel => exact ⟨j + 1, ot, A9, n9, c9, rfl, by go_num, Hlt.out, Nat.le_refl _, hot, by omega, HQ, HO, HX⟩
                · have g1 : (x == -t) = false := beq_eq_false_iff_ne.2 e1
                  by_cases e2 : x ∈ ot
                  · rw [if_pos (.inr e2)] at hr
                    rw [decide_eq_true e2] at Hh1
                    have HQ := Lib.hid hr
                    clear hr e1 e2
                    go_wp2_with fail
                    refine Hh1.out.mono ?_
                    rintro e w1 ⟨rfl, rfl⟩
                    go_wp2
                    go_roundg (b.length - (j + 1))
                    case measure => have := Hlt.out; omega
                    case rel => exact ⟨j + 1, ot, A9, n9, c9, rfl, by go_num, Hlt.out, Nat.le_refl _, hot, by omega, HQ, HO, HX⟩
                  · rw [if_neg (fun h => h.elim e1 e2)] at hr
                    rw [decide_eq_false e2] at Hh1
                    by_cases e3 : -x ∈ ot
                    · rw [if_pos e3] at hr
                      rw [decide_eq_true e3] at Hh2
                      subst hr
                      clear e1 e2 e3
                      go_wp2_with fail
                      refine Hh1.out.mono ?_
                      rintro e w1 ⟨rfl, rfl⟩
                      go_wp2_with fail
                      refine Hh2.out.mono ?_
                      rintro e w1 ⟨rfl, rfl⟩
                      go_wp2
                      go_ret2
                      exact ⟨rfl, HX.out.2⟩
                    · rw [if_neg e3] at hr
                      rw [decide_eq_false e3] at Hh2
                      have HQ := Lib.hid hr
                      have HO2 : Hid (∀ y ∈ putL x ot, -1000000000 ≤ y ∧ y ≤ 1000000000) := Lib.hid (fun y hy => (putL_mem.1 hy).elim (HO.out y) (fun e => by rw [e]; exact hxl))
                      have Hl := Lib.hid (putL_len x ot)
                      clear e1 e2 e3 hr
                      go_wp2_with fail
                      refine Hh1.out.mono ?_
                      rintro e w1 ⟨rfl, rfl⟩
                      go_wp2_with fail
                      refine Hh2.out.mono ?_
                      rintro e w1 ⟨rfl, rfl⟩
                      go_wp2_with fail
                      refine HPt.out.mono ?_
                      rintro e w2 ⟨A2, cp2, rfl, hm2, hb2⟩
                      have HX2 : Hid (OwI w (.slice A2 (putL x ot).length cp2) (putL x ot) w2) := Lib.hid ⟨hm2.lower HX.out.2.size, HX.out.2.trans (hb2.mono HX.out.2.size)⟩
                      clear hm2 hb2 HX
                      go_wp2
                      go_roundg (b.length - (j + 1))
                      case measure => have := Hlt.out; omega
                      case rel => exact ⟨j + 1, putL x ot, A2, _, cp2, rfl, by go_num, Hlt.out, Nat.le_refl _, rfl, by rw [Hl.out]; omega, HQ, HO2, HX2⟩
              · have hltz : ¬ (j : Int) < (b.length : Int) := by omega
                have hr := HQ.out
                rw [List.drop_eq_nil_of_le (by omega), resF] at hr
                subst hr
                subst hot
                go_wp2
                go_ret2
                exact ⟨⟨_, _, rfl, HX.out.1⟩, HX.out.2⟩
      · rw [if_neg h3] at hR
        rw [decide_eq_false h3] at H2
        subst hR
        clear h2 h3
        go_enter Try.func38, Try.ntmps38
        go_wp2_with fail
        refine H1.out.mono ?_
        rintro e w1 ⟨rfl, rfl⟩
        go_wp2_with fail
        refine H2.out.mono ?_
        rintro e w1 ⟨rfl, rfl⟩
        go_wp2
        go_ret2
        exact ⟨rfl, Below.refl _ _⟩
    · rw [if_neg h2] at hR
      rw [decide_eq_false h2] at H1
      subst hR
      clear h2
      go_enter Try.func38, Try.ntmps38
      go_wp2_with fail
      refine H1.out.mono ?_
      rintro e w1 ⟨rfl, rfl⟩
      go_wp2
      go_ret2
      exact ⟨rfl, Below.refl _ _⟩
end Go.Proofs.Ytggfjfmgclcnlaa.Zb
namespace Go.Proofs.Ytggfjfmgclcnlaa.Zb
open Go Go.RowKit Go.Shelf Go.Proofs.Ytggfjfmgclcnlaa.K Go.Proofs.Ytggfjfmgclcnlaa.G Go.Proofs.Ytggfjfmgclcnlaa.Z
set_option linter.unusedSimpArgs false
set_option linter.unusedVariables false

theorem run_drop2 (w : World) (A : Option Addr) (n c m : Nat) (hm : m ≤ n) : (Instr.slice 22 (.slice A n c) (some (.int .i64 (m : Int))) none none).run Try.prog w = .ok (.slice (if c = m then A else A.map (fun a => a.add m)) (n - m) (c - m)) w := by
  have h1 : (0 : Int) ≤ (m : Int) := by omega
  have h2 : (m : Int) ≤ (n : Int) := by omega
  have hu := Try.underlying22
  cases A <;> simp [Instr.slice, go_sem, hu, h1, h2]
set_option maxRecDepth 100000 in
set_option maxHeartbeats 4000000 in
theorem rreplay_calls2 (Sl Sp : Nat → Prop) (Al Ap : Option Addr) (cl cp : Nat) (l : List Cls) (p : List Stp) (w : World) (hl : C kL Sl w Al l) (hcl : l.length ≤ cl) (hp : C kS Sp w Ap p) (hcp : p.length ≤ cp) (hll : l.length ≤ 1000000) (hlc : 500 < l.length ∨ ∀ c ∈ l, c.length ≤ 1000000000) (hpi : ∀ s ∈ p, -9223372036854775808 ≤ s.2.2 ∧ s.2.2 ≤ 9223372036854775807) :
    Calls Try.prog 16 #[.slice Al l.length cl, .slice Ap p.length cp] w (RpEnd w (replB l p)) := by
  have hlm : l.length ≤ 9223372036854775807 := by omega
  have hpm : p.length ≤ 9223372036854775807 := by have := hp.len; simpa [maxLen] using this
  have HL := Lib.hid hl
  have HP := Lib.hid hp
  have HPi := Lib.hid hpi
  have HC := Lib.hid (rcheck_calls2 hl hcl (by omega) hlc)
  have hck : checkL l = 0 → (∀ c ∈ l, rightC c = true) := fun h => (checkL_ok h).2
  generalize hR : replB l p = R
  unfold replB at hR
  have HR := Lib.hid hR
  clear hl hp hpi hR
  by_cases h0 : checkL l = 0
  · have hrt := Lib.hid (hck h0)
    have hl500 := (checkL_ok h0).1
    have hR := HR.out
    rw [if_neg (fun e => e h0)] at hR
    rw [h0] at HC
    have HR := Lib.hid hR
    clear hck h0 hR
    go_enter Try.func16, Try.ntmps16
    go_wp2_with fail
    refine HC.out.mono ?_
    rintro e w1 ⟨rfl, hb1⟩
    have HB1 := Lib.hid hb1
    clear hb1 HC
    by_cases h1 : 20000 < p.length
    · have g1 : (20000 : Int) < (p.length : Int) := by omega
      obtain rfl : (([], 0, 5) : List Cls × Int × Int) = R := by have := HR.out; rwa [if_pos h1] at this
      clear h1 HR
      go_wp2
      go_ret3
      exact ⟨none, 0, rfl, Nat.le_refl _, C.nil .., HB1.out⟩
    · have g1 : ¬ (20000 : Int) < (p.length : Int) := by omega
      have hR := HR.out
      rw [if_neg h1] at hR
      have HR := Lib.hid hR
      have hp20 : p.length ≤ 20000 := by omega
      clear h1 hR
      have hwa : Below w1.heap.size w1 (w1.alloc (.cells #[] 44)) := (Below.refl _ _).alloc (Nat.le_refl _) _
      obtain ⟨A2, n2, c2, w2, hrun, hn2, hm2, hg2, ho2⟩ := append_own (c := cl) (S := Sl) Try.underlying22 infoL rfl (by decide) (by decide) (mine_empty kL (S := Sl) (base := w1.heap.size) (g := w1.heap.size) (w := w1.alloc (.cells #[] 44)) (Nat.le_refl _) (by simp)) ((HL.out.below HB1.out).bound.below hwa) (fun k hk => ⟨hk.1, fun e => by simp [Value.ownBlock] at e; have := hk.2; omega⟩) (by simp; omega) (by simp)
      rw [List.nil_append] at hn2 hm2
      subst hn2
      have hb2 : Below w1.heap.size w1 w2 := hwa.trans ((Chg.grown hg2 (fun k e => .inl e) (T := fun k => (Value.slice (some ⟨w1.heap.size, 0, none⟩) 0 0).ownBlock = some k)).below (by simp) (fun k e => by simp [Value.ownBlock] at e; omega))
      have hR0 : Hid (RpB w (.slice A2 l.length c2) l w2) := Lib.hid ⟨(hm2.lower HB1.out.size).mono (fun _ _ => trivial), HB1.out.trans (hb2.mono HB1.out.size)⟩
      have HRun0 := Lib.hid hrun
      have HRp : Hid (replF l (p.drop 0) 0 = replF l p 0) := Lib.hid (by rw [List.drop_zero])
      generalize hQ : replF l p 0 = Q at HRp HR
      clear hm2 hb2 hQ HB1 hrun hwa hg2 ho2
      go_wp2_with (at_builtin; refine G.wpList_append_run rfl _ _ _ rfl _ _ rfl rfl _ _ HRun0.out ?_)
      go_loopg [8, 9] p.length (fun gg v8 v9 wr => ∃ (i : Nat) (all : List Cls) (A : Option Addr) (c : Nat), v8 = .slice A all.length c ∧ v9 = .int .i64 i ∧ i ≤ p.length ∧ p.length - i ≤ gg ∧ all.length = l.length + i ∧ Hid (replF all (p.drop i) i = Q) ∧ Hid (∀ c ∈ all, rightC c = true) ∧ Hid (RpB w (.slice A all.length c) all wr))
      case atStart => exact ⟨0, l, _, _, rfl, rfl, by omega, by omega, by omega, HRp, hrt, hR0⟩
      case round =>
        clear HRp hR0
        obtain ⟨i, all, A, c, rfl, rfl, hi, hg, hal, HQ, HRt, HX⟩ := hrel
        have hall : all.length ≤ 1000000 := by omega
        by_cases hlt : i < p.length
        · have hltz : (i : Int) < (p.length : Int) := by omega
          have hi0 : (0 : Int) ≤ (i : Int) := by omega
          have Hlt := Lib.hid hlt
          have Hal := Lib.hid hal
          obtain ⟨b6, o6, rfl, hb6, p0, p1, p2⟩ := step_at (HP.out.below HX.out.below) i hlt
          have hpi := HPi.out _ (List.getElem_mem hlt)
          have hq := HQ.out
          rw [List.drop_eq_getElem_cons hlt, replF] at hq
          generalize p[i]'hlt = s at p0 p1 p2 hpi hq
          obtain ⟨sa, sb, st⟩ := s
          dsimp only at p0 p1 p2 hpi
          have hbx : Below wr.heap.size wr (wr.alloc (.cells #[.int .i64 sa, .int .i64 sb, .int .i64 st] 67)) := (Below.refl _ _).alloc (Nat.le_refl _) _
          have HXa := Lib.hid (HX.out.step hbx)
          have hall2 : all.length ≤ 9223372036854775807 := by omega
          by_cases hbad : sa < 0 ∨ sb < 0 ∨ (all.length : Int) ≤ sa ∨ (all.length : Int) ≤ sb
          · have hs1 : step1 all (sa, sb, st) = none := by unfold step1; rw [if_pos hbad]
            rw [hs1] at hq
            have hR := HR.out
            rw [← show ((none, i) : Option (List Cls) × Nat) = Q from hq] at hR
            obtain rfl : (([], (i : Int), 271) : List Cls × Int × Int) = R := hR
            clear hs1 hq HR HQ Hal hal
            by_cases k1 : sa < 0
            · clear hbad
              go_wp2
              go_ret3
              exact ⟨none, 0, rfl, Nat.le_refl _, C.nil .., HXa.out.below⟩
            · by_cases k2 : sb < 0
              · clear hbad
                go_wp2
                go_ret3
                exact ⟨none, 0, rfl, Nat.le_refl _, C.nil .., HXa.out.below⟩
              · by_cases k3 : (all.length : Int) ≤ sa
                · have k3' : sa ≥ (all.length : Int) := k3
                  clear hbad
                  go_wp2
                  go_ret3
                  exact ⟨none, 0, rfl, Nat.le_refl _, C.nil .., HXa.out.below⟩
                · have k4 : (all.length : Int) ≤ sb := by omega
                  have k4' : sb ≥ (all.length : Int) := k4
                  clear hbad
                  go_wp2
                  go_ret3
                  exact ⟨none, 0, rfl, Nat.le_refl _, C.nil .., HXa.out.below⟩
          · obtain ⟨na, rfl⟩ : ∃ n : Nat, sa = (n : Int) := ⟨sa.toNat, by omega⟩
            obtain ⟨nb, rfl⟩ : ∃ n : Nat, sb = (n : Int) := ⟨sb.toNat, by omega⟩
            have n1 : ¬ (na : Int) < 0 := by omega
            have n2 : ¬ (nb : Int) < 0 := by omega
            have n3 : ¬ (all.length : Int) ≤ (na : Int) := by omega
            have n4 : ¬ (all.length : Int) ≤ (nb : Int) := by omega
            have hna : na < all.length := by omega
            have hnb : nb < all.length := by omega
            have hs1 : step1 all ((na : Int), (nb : Int), st) = resB (all[na]'hna) (all[nb]'hnb) st := by
              unfold step1
              rw [if_neg (by simp only; omega)]
              simp only [Int.toNat_natCast]
              rw [List.getD_eq_getElem?_getD, List.getD_eq_getElem?_getD, List.getElem?_eq_getElem hna, List.getElem?_eq_getElem hnb]
              rfl
            rw [hs1] at hq
            have r1 := HRt.out _ (List.getElem_mem hna)
            have r2 := HRt.out _ (List.getElem_mem hnb)
            have hca := HXa.out.all.read.2.2
            obtain ⟨b7, o7, A7, c7, e7, hb7, q7, hl7, hC7⟩ := cls_at hca na hna
            obtain ⟨b8, o8, A8, c8, e8, hb8, q8, hl8, hC8⟩ := cls_at hca nb hnb
            subst e7
            simp only [Option.some.injEq, Addr.mk.injEq, and_true] at e8
            obtain ⟨rfl, rfl⟩ := e8
            have hc0 : (wr.alloc (.cells #[.int .i64 (na : Int), .int .i64 (nb : Int), .int .i64 st] 67)).cell? ⟨wr.heap.size, 0, none⟩ = some (.int .i64 (na : Int)) := by simp only [World.cell?, alloc_new]; rfl
            have hc1 : (wr.alloc (.cells #[.int .i64 (na : Int), .int .i64 (nb : Int), .int .i64 st] 67)).cell? ⟨wr.heap.size, 1, none⟩ = some (.int .i64 (nb : Int)) := by simp only [World.cell?, alloc_new]; rfl
            have hc2 : (wr.alloc (.cells #[.int .i64 (na : Int), .int .i64 (nb : Int), .int .i64 st] 67)).cell? ⟨wr.heap.size, 2, none⟩ = some (.int .i64 st) := by simp only [World.cell?, alloc_new]; rfl
            have hwz : wr.heap.size < (wr.alloc (.cells #[.int .i64 (na : Int), .int .i64 (nb : Int), .int .i64 st] 67)).heap.size := by simp
            have hown := fun k (e : (Value.slice (some ⟨b7, o7, none⟩) all.length c).ownBlock = some k) => (HX.out.all.base_le e).2
            have HRes := Lib.hid (fun (W : World) (hb : Below (wr.alloc (.cells #[.int .i64 (na : Int), .int .i64 (nb : Int), .int .i64 st] 67)).heap.size (wr.alloc (.cells #[.int .i64 (na : Int), .int .i64 (nb : Int), .int .i64 st] 67)) W) => rres_calls _ _ A7 A8 c7 c8 (all[na]'hna) (all[nb]'hnb) st W (hC7.below hb) (hC8.below hb) r1 r2 hpi.2)
            have hnar : ∀ c, resB (all[na]'hna) (all[nb]'hnb) st = some c → rightC c = true := fun c e => (resB_spec e r1 r2).1
            generalize all[na]'hna = ca at q7 hl7 hC7 HRes hq r1 hnar
            generalize all[nb]'hnb = cb at q8 hl8 hC8 HRes hq r2 hnar
            generalize resB ca cb st = D at HRes hq hnar
            have Hnar := Lib.hid hnar
            have HQ2 := Lib.hid hq
            have k1 : (na : Int) < (all.length : Int) := by omega
            have k2 : (nb : Int) < (all.length : Int) := by omega
            have k3 : (0 : Int) ≤ (na : Int) := by omega
            have k4 : (0 : Int) ≤ (nb : Int) := by omega
            clear hs1 hq hbad r1 r2 hca hC7 hC8 hl7 hl8 hnar HQ hal
            go_upto_region 13 with fail
            generalize hz : wr.alloc (.cells #[.int .i64 (na : Int), .int .i64 (nb : Int), .int .i64 st] 67) = wz at hc0 hc1 hc2 hwz HRes q7 q8 HXa hbx hb7 hb8 ⊢
            clear hz
            generalize wr.heap.size = gz at hc0 hc1 hc2 hwz hown ⊢
            have hs0 : Below wz.heap.size wz wz.drew := Chg.below1 wz
            have HCl := Lib.hid (fun W (h : Below wz.heap.size wz W) => And.intro ((h.cell (p := ⟨gz, 0, none⟩) hwz).trans hc0) (And.intro ((h.cell (p := ⟨gz, 1, none⟩) hwz).trans hc1) (And.intro ((h.cell (p := ⟨gz, 2, none⟩) hwz).trans hc2) (And.intro ((h.cell (p := ⟨b7, o7 + na, none⟩) hb7).trans q7) ((h.cell (p := ⟨b7, o7 + nb, none⟩) hb8).trans q8)))))
            clear p0 p1 p2
            cases D with
            | none =>
              have hq := HQ2.out
              have hR := HR.out
              rw [← show ((none, i) : Option (List Cls) × Nat) = Q from hq] at hR
              obtain rfl : (([], (i : Int), 271) : List Cls × Int × Int) = R := hR
              clear hq HQ2 HR Hnar
              go_region_held3 (fun W' => W'.cell? ⟨gz, 0, none⟩ = some (.int .i64 (na : Int)) ∧ W'.cell? ⟨gz, 1, none⟩ = some (.int .i64 (nb : Int)) ∧ W'.cell? ⟨gz, 2, none⟩ = some (.int .i64 st) ∧ W'.cell? ⟨b7, o7 + na, none⟩ = some (.slice A7 ca.length c7) ∧ W'.cell? ⟨b7, o7 + nb, none⟩ = some (.slice A8 cb.length c8)) (go_keep)
                (first
                  | (go_at_call 38
                     (with_reducible refine (HRes.out _ ?_).mono ?_)
                     (assumption)
                     rintro e w9 ⟨rfl, hb9⟩
                     have hs9 := hs0.trans hb9
                     clear hc0 hc1 hc2 q7 q8
                     obtain ⟨hc0, hc1, hc2, q7, q8⟩ := HCl.out _ hs9))
              all_goals
                go_wp2
                go_ret3
                exact ⟨none, 0, rfl, Nat.le_refl _, C.nil .., HXa.out.below.trans (hs9.mono HXa.out.below.size)⟩
            | some d =>
              have HQn : Hid (replF (all ++ [d]) (p.drop (i + 1)) (i + 1) = Q) := Lib.hid HQ2.out
              have hrd := Hnar.out d rfl
              clear HQ2 Hnar
              go_region_held3 (fun W' => W'.cell? ⟨gz, 0, none⟩ = some (.int .i64 (na : Int)) ∧ W'.cell? ⟨gz, 1, none⟩ = some (.int .i64 (nb : Int)) ∧ W'.cell? ⟨gz, 2, none⟩ = some (.int .i64 st) ∧ W'.cell? ⟨b7, o7 + na, none⟩ = some (.slice A7 ca.length c7) ∧ W'.cell? ⟨b7, o7 + nb, none⟩ = some (.slice A8 cb.length c8)) (go_keep)
                (first
                  | (go_at_call 38
                     (with_reducible refine (HRes.out _ ?_).mono ?_)
                     (assumption)
                     rintro e w9 ⟨⟨A9, c9, rfl, hm9⟩, hb9⟩
                     have hs9 := hs0.trans hb9
                     clear hc0 hc1 hc2 q7 q8
                     obtain ⟨hc0, hc1, hc2, q7, q8⟩ := HCl.out _ hs9))
              all_goals
                have hb10 : Below w9.heap.size w9 (w9.alloc (.cells #[.slice A9 d.length c9] 44)) := (Below.refl _ _).alloc (Nat.le_refl _) _
                have hx9 : C kI (fun k => wz.heap.size ≤ k) w9 A9 d := hm9.read.2.2.mono (fun k hk => hk.elim False.elim (fun e => (hm9.base_le (show (Value.slice A9 d.length c9).ownBlock = some k by cases A9 with | none => cases e | some _ => simpa [Value.ownBlock] using e)).1))
                have hall10 := (HXa.out.all.below hs9).below hb10
                have hsz10 : w.heap.size ≤ (w9.alloc (.cells #[.slice A9 d.length c9] 44)).heap.size := Nat.le_trans HXa.out.below.size (Nat.le_trans hs9.size hb10.size)
                obtain ⟨A', n', c', w', hrun, hn', hm, hg, ho⟩ := append_own (c := 1) (S := Any) (S' := fun k => wz.heap.size ≤ k) Try.underlying22 infoL rfl (by decide) (by decide) hall10 (one_cls (alloc_new _ _) hs9.size hm9.read.2.1 (hx9.below hb10)) (fun k hk => ⟨trivial, fun e => by have := hown k e; omega⟩) (by simp; omega) hsz10
                have hbw : Below w.heap.size w w' := (HXa.out.below.trans ((hs9.trans (hb10.mono hs9.size)).mono HXa.out.below.size)).trans ((Chg.grown hg (fun k e => .inl e) (T := fun k => (Value.slice (some ⟨b7, o7, none⟩) all.length c).ownBlock = some k)).below hsz10 (fun k e => (HXa.out.all.base_le e).1))
                have HXn := Lib.hid (RpB.mk hm hbw)
                have HRun := Lib.hid hrun
                have HRn : Hid (∀ c ∈ all ++ [d], rightC c = true) := Lib.hid (fun c hc => (List.mem_append.1 hc).elim (HRt.out c) (fun h => by rw [List.mem_singleton.1 h]; exact hrd))
                have hln : (all ++ [d]).length = l.length + (i + 1) := by rw [List.length_append, Hal.out]; rfl
                have Hln := Lib.hid hln
                subst hn'
                clear hb10 hx9 hall10 hsz10 hrun hm hg ho hbw hln HX HXa HRes HCl hm9 hc0 hc1 hc2 q7 q8
                go_wp2_with (at_builtin; refine G.wpList_append_run rfl _ _ _ rfl _ _ rfl rfl _ _ HRun.out ?_)
                go_roundg (p.length - (i + 1))
                case measure => omega
                case rel => exact ⟨i + 1, all ++ [d], _, _, by rw [List.length_append]; rfl, by go_num, Hlt.out, Nat.le_refl _, Hln.out, HQn, HRn, HXn⟩
        · have hltz : ¬ (i : Int) < (p.length : Int) := by omega
          have hq := HQ.out
          rw [List.drop_eq_nil_of_le (by omega), replF] at hq
          have hR := HR.out
          rw [← hq] at hR
          obtain rfl : ((all.drop l.length, 0, 0) : List Cls × Int × Int) = R := hR
          have hmd := HX.out.all.drop l.length (by omega)
          have ha := mine_addr HX.out.all
          obtain ⟨A9, hA9⟩ : ∃ A9, (if c = l.length then A else A.map (fun a => a.add l.length)) = A9 := ⟨_, rfl⟩
          have e9 : (if c = l.length then A else A.map (fun a => ⟨a.block, a.off + l.length * kL.sz, none⟩)) = A9 := by
            rw [← hA9]
            rcases ha with rfl | ⟨g, o, rfl⟩
            · rfl
            · by_cases hl0 : l = []
              · subst hl0; simp [Addr.add]
              · simp [Addr.add, hl0, show kL.sz = 1 from rfl]
          rw [e9] at hmd
          have hsl : ∀ W, (Instr.slice 22 (.slice A all.length c) (some (.int .i64 (l.length : Int))) none none).run Try.prog W = .ok (.slice A9 (all.length - l.length) (c - l.length)) W := fun W => by rw [← hA9]; exact run_drop2 W A all.length c l.length (by omega)
          have hb9 := HX.out.below
          clear hq HR HQ ha hA9 e9 hal
          go_wp2
          go_ret3
          exact ⟨A9, c - l.length, by rw [List.length_drop]; rfl, by have := hmd.read.2.1; rw [List.length_drop]; exact this, hmd.read.2.2.mono (fun _ _ => trivial), hb9⟩
  · have hR := HR.out
    rw [if_pos h0] at hR
    subst hR
    generalize checkL l = E at h0 HC
    have gE : (E != 0) = true := bne_iff_ne.2 h0
    clear h0 HR hck
    go_enter Try.func16, Try.ntmps16
    go_wp2_with fail
    refine HC.out.mono ?_
    rintro e w1 ⟨rfl, hb1⟩
    have HB1 := Lib.hid hb1
    clear hb1 HC
    go_wp2
    go_ret3
    exact ⟨none, 0, rfl, Nat.le_refl _, C.nil .., HB1.out⟩
theorem rreplay_calls (Sl Sp : Nat → Prop) (Al Ap : Option Addr) (cl cp : Nat) (l : List Cls) (p : List Stp) (w : World) (hl : C kL Sl w Al l) (hcl : l.length ≤ cl) (hp : C kS Sp w Ap p) (hcp : p.length ≤ cp) (hll : l.length ≤ 1000000) (hlc : ∀ c ∈ l, c.length ≤ 1000000000) (hpi : ∀ s ∈ p, -9223372036854775808 ≤ s.2.2 ∧ s.2.2 ≤ 9223372036854775807) :
    Calls Try.prog 16 #[.slice Al l.length cl, .slice Ap p.length cp] w (RpEnd w (replB l p)) := rreplay_calls2 Sl Sp Al Ap cl cp l p w hl hcl hp hcp hll (.inr hlc) hpi
end Go.Proofs.Ytggfjfmgclcnlaa.Zb
