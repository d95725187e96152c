/- Walk: the iterator of tokens. -/
import Derived.Test.YtmkfeanggmjhmaaGreatS6
import Derived.Test.YtmkfeanggmjhmaaGreatS7
import Derived.Test.YtmkfeanggmjhmaaGreatM
import Derived.Maps.AppendAt
import Derived.RecoverIn
import Derived.BigRegionIn
import Derived.BigFrameIn
import Derived.Maps.OwnIn
namespace Go.Proofs.YtmkfeanggmjhmaaGreat.S
open Go Go.RowKit Go.Shelf Go.Proofs.YtmkfeanggmjhmaaGreatW.PrintWords Go.Proofs.YtmkfeanggmjhmaaGreatW.PrintLast Go.Proofs.YtmkfeanggmjhmaaGreatW.PrintMore
open Go.Proofs.YtmkfeanggmjhmaaGreat.M Go.Proofs.YtmkfeanggmjhmaaGreat.K
set_option linter.unusedSimpArgs false
set_option linter.unusedVariables false
attribute [local go_sem] Oper.semAt_some

def encT (x : Tok) : Array Value := #[.agg #[.int .i64 x.kind, .string x.text, .int .i64 x.at_]]

theorem blanks_in (bx : Nat) (s : ByteArray) (i : Int) (h0 : 0 ≤ i) (hi : i ≤ s.size) (w : World) (hx : w.cell? ⟨bx, 1, none⟩ = some (.string s)) (hs : s.size ≤ 1000000000000) (n : Nat) :
    CallsIn Fence.wide n Tryz.prog 47 #[.pointer (some ⟨bx, 0, none⟩), .int .i64 i] w fun r w' => r = blanksR (blanksE s i.toNat) ∧ Below w.heap.size w w' :=
  callsIn_wide.2 (blanks_calls bx s i h0 hi w hx hs)
theorem one_in (bx bm n : Nat) (p : List UInt8 → Bool) (s : ByteArray) (i : Int) (h0 : 0 ≤ i) (hi : i < s.size) (w : World)
    (hm : w.cell? ⟨bx, 0, none⟩ = some (.map (some bm))) (hx : w.cell? ⟨bx, 1, none⟩ = some (.string s)) (hk : KwSet w bm n p) (hs : s.size ≤ 1000000000000) (m : Nat) :
    CallsIn Fence.wide m Tryz.prog 48 #[.pointer (some ⟨bx, 0, none⟩), .int .i64 i] w fun r w' => r = oneR i.toNat (oneE p s i.toNat) ∧ Below w.heap.size w w' :=
  callsIn_wide.2 (one_calls bx bm n p s i h0 hi w hm hx hk hs)

/-- how the iterator of tokens ends -/
def TokEnd (sc : List Tok × Option (Nat × Int)) (J Jx : List Tok → (Nat → Prop) → World → Prop) (e : Ending) (W : World) : Prop :=
  (∃ v, e = .returned v ∧ ((∃ xs M, sc = (xs, none) ∧ J xs M W) ∨ (∃ pre M, True ∧ Jx pre M W))) ∨
    (∃ chain pre M, e = .panicked chain ∧ (∃ q c, sc = (pre, some (q, c)) ∧ chain = [{ v := stopV q c, recovered := false }]) ∧ J pre M W)

set_option maxHeartbeats 4000000 in
theorem tokens_iter (bb bx bm n : Nat) (p : List UInt8 → Bool) (s : ByteArray) (w : World) (hbb : w.cell? ⟨bb, 0, none⟩ = some (.pointer (some ⟨bx, 0, none⟩)))
    (hm : w.cell? ⟨bx, 0, none⟩ = some (.map (some bm))) (hx : w.cell? ⟨bx, 1, none⟩ = some (.string s)) (hk : KwSet w bm n p) (hs : s.size ≤ 1000000000000) :
    IterAt Tryz.prog 46 #[.pointer (some ⟨bb, 0, none⟩)] encT (fun xs => scanE p s = (xs, none)) (fun _ => True)
      (fun pre chain => ∃ q c, scanE p s = (pre, some (q, c)) ∧ chain = [{ v := stopV q c, recovered := false }]) (s.size + 1) (fun k => k ≠ bb ∧ k ≠ bx ∧ k ≠ bm) w := by
  intro l M0 J Jx hM0 hJ hJx hJM hY h0
  have hpan := run_panic_iface
  have hbb0 : bb < w.heap.size := lt_of_cell hbb
  have hbx0 : bx < w.heap.size := lt_of_cell hx
  have hbm0 : bm < w.heap.size := hk.lt
  have HY := Lib.hid hY
  clear hY
  have HJ := Lib.hid hJ
  clear hJ
  have HM0 := Lib.hid hM0
  clear hM0
  have HJM := Lib.hid hJM
  clear hJM
  clear hJx
  have HB0 := Lib.hid (fun i h0 hi W hX => blanks_in bx s i h0 hi W hX hs 0)
  have HO := Lib.hid (fun i h0 hi W hM hX hK => one_in bx bm n p s i h0 hi W hM hX hK hs 0)
  have HB := Lib.hid (HB0.out 0 (by omega) (by omega) w hx)
  change Hid (CallsIn _ _ _ _ _ _ fun r w' => r = blanksR (blanksE s 0) ∧ _) at HB
  change CallsIn _ _ _ _ _ _ (TokEnd (scanE p s) J Jx)
  generalize hSC : scanE p s = SC
  unfold scanE at hSC
  refine callsIn_of_wp Tryz.func46 rfl trivial ?_ rfl
  simp only [Tryz.ntmps46, List.size_toArray, List.length_cons, List.length_nil, Nat.reduceAdd, Nat.reduceSub, Array.replicate_succ, Array.replicate_zero, List.push_toArray, List.append_toArray, List.nil_append, List.cons_append]
  cases hb0 : blanksE s 0 with
  | error q =>
    rw [hb0] at HB hSC
    have HSC := Lib.hid hSC
    clear hb0 hSC
    gi_wp2
    refine ⟨trivial, rfl, ?_⟩
    refine HB.out.mono ?_
    rintro e w1 ⟨rfl, hb⟩
    unfold blanksR stopE
    gi_wp2
    refine ⟨rfl, .inr ⟨_, [], M0, rfl, ⟨q, 162, HSC.out.symm, rfl⟩, ?_⟩⟩
    exact HJ.out _ _ _ _ h0 (Chg.of_fresh hb)
  | ok j =>
    have hcl := blanksE_le (by omega) hb0
    rw [hb0] at HB hSC
    clear hb0
    have hj : j ≤ s.size := hcl.2
    clear hcl
    change scanFrom p s j [] = SC at hSC
    have HSC := Lib.hid hSC
    clear hSC
    gi_wp2
    refine ⟨trivial, rfl, ?_⟩
    refine HB.out.mono ?_
    rintro e w1 ⟨rfl, hb⟩
    unfold blanksR
    gi_wp2
    gi_loopw [3] (fun v wr => ∃ (k : Nat) (pre : List Tok) (M : Nat → Prop), v = .int .i64 k ∧ k ≤ s.size ∧ pre.length ≤ k ∧ Hid (scanFrom p s k pre = SC) ∧ J pre M wr ∧ (∀ b, M b → (b ≠ bb ∧ b ≠ bx ∧ b ≠ bm)) ∧ w.heap.size ≤ wr.heap.size ∧
      wr.cell? ⟨bb, 0, none⟩ = some (.pointer (some ⟨bx, 0, none⟩)) ∧ wr.cell? ⟨bx, 0, none⟩ = some (.map (some bm)) ∧ wr.cell? ⟨bx, 1, none⟩ = some (.string s) ∧ KwSet wr bm n p) (fun v _ => s.size - (intOf v).toNat)
    case atStart =>
      refine ⟨j, [], M0, rfl, hj, by simp, HSC, HJ.out _ _ _ _ h0 (Chg.of_fresh hb), HM0.out, hb.size, ?_, ?_, ?_, hk.below hb hbm0⟩
      · exact (hb.cell (p := ⟨bb, 0, none⟩) hbb0).trans hbb
      · exact (hb.cell (p := ⟨bx, 0, none⟩) hbx0).trans hm
      · exact (hb.cell (p := ⟨bx, 1, none⟩) hbx0).trans hx
    case round =>
      obtain ⟨k, pre, M, rfl, hks, hlen, HR, hJs, hMs, hsz, hbb1, hm1, hx1, hk1⟩ := hrel
      clear hbb hm hx hk h0 HB HSC hb
      by_cases hlt : k < s.size
      · have hltz : (k : Int) < (s.size : Int) := by omega
        have Heq := Lib.hid ((scanFrom_eq p s k pre hlt).symm.trans HR.out)
        have HC := Lib.hid (HO.out k (by omega) hltz wr hm1 hx1 hk1)
        rw [Int.toNat_natCast] at HC
        cases ho : oneE p s k with
        | error c =>
          rw [ho] at Heq HC
          clear ho
          gi_wp2
          refine ⟨trivial, rfl, ?_⟩
          refine HC.out.mono ?_
          rintro e w2 ⟨rfl, hb2⟩
          unfold oneR stopE
          gi_wp2
          refine ⟨rfl, .inr ⟨_, pre, M, rfl, ⟨k, c, Heq.out.symm, rfl⟩, ?_⟩⟩
          exact HJ.out _ _ _ _ hJs (Chg.of_fresh hb2)
        | ok r =>
          obtain ⟨⟨kd, tx⟩, en⟩ := r
          have hel := oneE_lt hlt ho
          simp only at hel
          rw [ho] at Heq HC
          clear ho
          gi_wp2
          refine ⟨trivial, rfl, ?_⟩
          refine HC.out.mono ?_
          rintro e w2 ⟨rfl, hb2⟩
          unfold oneR
          clear HC
          have hbb3 : (w2.alloc (.cells #[.int .i64 kd, .string tx, .int .i64 k] 30)).cell? ⟨bb, 0, none⟩ = some (.pointer (some ⟨bx, 0, none⟩)) :=
            (cell_old _ _ _ _ (by have := hb2.size; omega)).trans ((hb2.cell (p := ⟨bb, 0, none⟩) (by show bb < _; omega)).trans hbb1)
          have hm3 : (w2.alloc (.cells #[.int .i64 kd, .string tx, .int .i64 k] 30)).cell? ⟨bx, 0, none⟩ = some (.map (some bm)) :=
            (cell_old _ _ _ _ (by have := hb2.size; omega)).trans ((hb2.cell (p := ⟨bx, 0, none⟩) (by show bx < _; omega)).trans hm1)
          have hx3 : (w2.alloc (.cells #[.int .i64 kd, .string tx, .int .i64 k] 30)).cell? ⟨bx, 1, none⟩ = some (.string s) :=
            (cell_old _ _ _ _ (by have := hb2.size; omega)).trans ((hb2.cell (p := ⟨bx, 1, none⟩) (by show bx < _; omega)).trans hx1)
          have hk3 : KwSet (w2.alloc (.cells #[.int .i64 kd, .string tx, .int .i64 k] 30)) bm n p := (hk1.below hb2 (by omega)).chg (Chg.alloc (fun _ => False) _ _) (fun e => e)
          have hJ3 := HJ.out _ _ _ (w2.alloc (.cells #[.int .i64 kd, .string tx, .int .i64 k] 30)) hJs ((Chg.of_fresh hb2).trans (Chg.alloc _ _ _))
          have hsz3 : w.heap.size ≤ (w2.alloc (.cells #[.int .i64 kd, .string tx, .int .i64 k] 30)).heap.size := by have := hb2.size; simp; omega
          obtain ⟨fn, tmps, assign, body, hy, hRd⟩ := HY.out pre M ⟨kd, tx, k⟩ _ hJ3 (by omega)
          unfold encT at hy
          dsimp only at hy
          have Hk3 := Lib.hid hk3
          clear hk1 hbb1 hm1 hx1 hk3
          gi_wp2
          generalize w2.alloc (.cells #[.int .i64 kd, .string tx, .int .i64 k] 30) = w3 at hy hRd hbb3 hm3 hx3 Hk3 hJ3 hsz3 ⊢
          refine ⟨rfl, ?_⟩
          refine hRd.mono ?_
          rintro e w4 (⟨rfl, M', hJ4, hc4, hM4⟩ | ⟨rfl, M', hJ4, hc4, hM4⟩)
          · have hbb4 := hc4.cell hbb3 (fun h => (hMs _ h).1 rfl)
            have hm4 := hc4.cell hm3 (fun h => (hMs _ h).2.1 rfl)
            have hx4 := hc4.cell hx3 (fun h => (hMs _ h).2.1 rfl)
            have hk4 := Hk3.out.chg hc4 (fun h => (hMs _ h).2.2 rfl)
            have hs4 := hc4.size
            have HBn := Lib.hid (HB0.out en (by omega) (by omega) w4 hx4)
            rw [Int.toNat_natCast] at HBn
            have Hk4 := Lib.hid hk4
            clear hk4 hbb3 hm3 hx3 Hk3
            cases hbl : blanksE s en with
            | error q =>
              rw [hbl] at HBn Heq
              clear hbl
              gi_wp2
              refine ⟨trivial, rfl, ?_⟩
              refine HBn.out.mono ?_
              rintro e w5 ⟨rfl, hb5⟩
              unfold blanksR stopE
              gi_wp2
              refine ⟨rfl, .inr ⟨_, pre ++ [⟨kd, tx, k⟩], M', rfl, ⟨q, 162, Heq.out.symm, rfl⟩, ?_⟩⟩
              exact HJ.out _ _ _ _ hJ4 (Chg.of_fresh hb5)
            | ok j2 =>
              have hj2 := blanksE_le (by omega) hbl
              rw [hbl] at HBn Heq
              clear hbl
              gi_wp2
              refine ⟨trivial, rfl, ?_⟩
              refine HBn.out.mono ?_
              rintro e w5 ⟨rfl, hb5⟩
              unfold blanksR
              gi_wp2
              go_roundw
              case rel =>
                refine ⟨j2, pre ++ [⟨kd, tx, k⟩], M', rfl, hj2.2, by simp; omega, Heq, HJ.out _ _ _ _ hJ4 (Chg.of_fresh hb5), ?_, by have := hb5.size; omega, ?_, ?_, ?_, Hk4.out.below hb5 (by omega)⟩
                · intro b hb
                  rcases hM4 b hb with h | h
                  · exact hMs b h
                  · exact ⟨by omega, by omega, by omega⟩
                · exact (hb5.cell (p := ⟨bb, 0, none⟩) (by show bb < _; omega)).trans hbb4
                · exact (hb5.cell (p := ⟨bx, 0, none⟩) (by show bx < _; omega)).trans hm4
                · exact (hb5.cell (p := ⟨bx, 1, none⟩) (by show bx < _; omega)).trans hx4
              case measure => simp [intOf]; omega
          · gi_wp2
            refine bodyPost_ret (results_none rfl _ _ _) rfl ?_
            exact .inl ⟨_, rfl, .inr ⟨_, M', trivial, hJ4⟩⟩
      · have hltz : ¬ (k : Int) < (s.size : Int) := by omega
        have Heq := Lib.hid ((scanFrom_end p s k pre (by omega)).symm.trans HR.out)
        gi_wp2
        go_end0
        exact .inl ⟨_, rfl, .inl ⟨pre, M, Heq.out.symm, hJs⟩⟩
end Go.Proofs.YtmkfeanggmjhmaaGreat.S
namespace Go.Proofs.YtmkfeanggmjhmaaGreat.S
open Go Go.RowKit Go.Shelf Go.Proofs.YtmkfeanggmjhmaaGreatW.PrintWords Go.Proofs.YtmkfeanggmjhmaaGreatW.PrintLast Go.Proofs.YtmkfeanggmjhmaaGreatW.PrintMore
open Go.Proofs.YtmkfeanggmjhmaaGreat.M Go.Proofs.YtmkfeanggmjhmaaGreat.K
set_option linter.unusedSimpArgs false
set_option linter.unusedVariables false
attribute [local go_sem] Oper.semAt_some

theorem tokens_calls (bx : Nat) (w : World) :
    Calls Tryz.prog 36 #[.pointer (some ⟨bx, 0, none⟩)] w fun r w' =>
      r = .returned (.func (.func 46) #[] #[.pointer (some ⟨w.heap.size, 0, none⟩)]) ∧ w' = w.alloc (.cells #[.pointer (some ⟨bx, 0, none⟩)] 66) := by
  have hmf : ∀ (fn : Fn) (first cap : Array Value) (w : World), (Instr.makeFunc fn first cap).run Tryz.prog w = .ok (.func fn first cap) w := fun _ _ _ _ => rfl
  go_enter Tryz.func36, Tryz.ntmps36
  go_wp2
  go_ret
  exact ⟨rfl, rfl⟩

def tokCells (x : Tok) : List Value := [.int .i64 x.kind, .string x.text, .int .i64 x.at_]

theorem catch_idle (pa pb pc : Addr) (w : World) :
    CallsDIn Fence.wide 0 Tryz.prog 35 #[.pointer (some pa), .pointer (some pb), .pointer (some pc)] .returning w fun e u' w' => e = .returned (.tuple #[]) ∧ u' = .returning ∧ w' = w := by
  refine callsDIn_of_wpSIn Tryz.func35 rfl trivial fun c₀ cs hu => ?_
  apply wpSIn_seq
  apply wpSIn_region
  simp [wpOpsSIn, go_sem, recoverD, hu, Tryz.ntmps35, Exit.thenS, Fence.wide]
  apply wpSIn_seq
  apply wpSIn_region
  simp [wpOpsSIn, go_sem, Exit.thenS, Fence.wide]
  refine wpSIn_cond (t := false) (by simp [Act.eval, Array.replicate]) ?_
  simp only [Bool.false_eq_true, if_false]
  refine wpSIn_of_wpIn rfl (wpIn_skip ?_)
  cases c₀
  simp_all [bodyPostS, results, Tryz.results35]

/-- what the recovery leaves -/
def Caught (b : Nat) (q : Nat) (c : Int) (chain : List PanicEntry) (w : World) (e : Ending) (u : FrameMode) (w' : World) : Prop :=
  e = .returned (.tuple #[]) ∧ u = .panicking chain ∧ Chg (fun k => k = b ∨ k = b + 1 ∨ k = b + 2) w w' ∧
    w'.cell? ⟨b, 0, none⟩ = some (.slice none 0 0) ∧ w'.cell? ⟨b + 1, 0, none⟩ = some (.int .i64 q) ∧ w'.cell? ⟨b + 2, 0, none⟩ = some (.int .i64 c)

set_option maxHeartbeats 1000000 in
theorem catch_panicking (b : Nat) (va vb vc : Value) (q : Nat) (c : Int) (older : List PanicEntry) (w : World)
    (ha : w.cell? ⟨b, 0, none⟩ = some va) (hb : w.cell? ⟨b + 1, 0, none⟩ = some vb) (hc : w.cell? ⟨b + 2, 0, none⟩ = some vc)
    (hfa : w.frozen? ⟨b, 0, none⟩ = false) (hfb : w.frozen? ⟨b + 1, 0, none⟩ = false) (hfc : w.frozen? ⟨b + 2, 0, none⟩ = false) :
    CallsDIn Fence.wide 0 Tryz.prog 35 #[.pointer (some ⟨b, 0, none⟩), .pointer (some ⟨b + 1, 0, none⟩), .pointer (some ⟨b + 2, 0, none⟩)]
      (.panicking ({ v := stopV q c, recovered := false } :: older)) w (Caught b q c ({ v := stopV q c, recovered := true } :: older) w) := by
  refine callsDIn_of_wpSIn Tryz.func35 rfl trivial fun c₀ cs hu => ?_
  unfold stopV at hu ⊢
  simp only [Tryz.ntmps35, List.size_toArray, List.length_cons, List.length_nil, Nat.reduceAdd, Nat.reduceSub, Array.replicate_succ, Array.replicate_zero, List.push_toArray, List.append_toArray, List.nil_append, List.cons_append]
  apply wpSIn_seq
  apply wpSIn_region
  simp [wpOpsSIn, go_sem, recoverD, hu, Tryz.ntmps35, Exit.thenS, Fence.wide]
  apply wpSIn_seq
  apply wpSIn_region
  simp [wpOpsSIn, go_sem, Exit.thenS, Fence.wide]
  refine wpSIn_cond (t := true) (by simp [Act.eval]) ?_
  simp only [if_true]
  change Code.wpSIn Fence.wide 0 Tryz.prog _ _ _ _ _
  refine wpSIn_of_wpIn rfl (wpIn_wide.2 ?_)
  refine wp_mono (Q := fun e a' w' => e = .normal ∧ a'.defers = [] ∧ (Chg (fun k => k = b ∨ k = b + 1 ∨ k = b + 2) w w' ∧
    w'.cell? ⟨b, 0, none⟩ = some (.slice none 0 0) ∧ w'.cell? ⟨b + 1, 0, none⟩ = some (.int .i64 q) ∧ w'.cell? ⟨b + 2, 0, none⟩ = some (.int .i64 c))) ?_ ?_
  · have hta : ∀ v W, (Instr.typeAssert (.iface 63 v) 20 63 false).run Tryz.prog W = .ok v W := fun v W => by
      simp [Instr.typeAssert, Tryz.underlying63, Sem.run, go_sem]
    have hf0 : ∀ W, (Instr.field 63 (.agg #[.int .i64 q, .int .i64 c]) 0).run Tryz.prog W = .ok (.int .i64 q) W := fun W => by
      simp [Instr.field, underlying, part, asAgg, go_sem, Tryz.underlying63, Tryz.underlying3]
    have hf1 : ∀ W, (Instr.field 63 (.agg #[.int .i64 q, .int .i64 c]) 1).run Tryz.prog W = .ok (.int .i64 c) W := fun W => by
      simp [Instr.field, underlying, part, asAgg, go_sem, Tryz.underlying63, Tryz.underlying26]
    go_region
    refine ⟨rfl, rfl, ?_, ?_, ?_, ?_⟩
    · exact (((Chg.setCell (p := ⟨b, 0, none⟩) (.inl rfl) _).trans (Chg.setCell (p := ⟨b + 1, 0, none⟩) (.inr (.inl rfl)) _)).trans (Chg.setCell (p := ⟨b + 2, 0, none⟩) (.inr (.inr rfl)) _)).trans (Chg.drew _ _)
    all_goals simp [go_sem, ha, hb, hc]
  · rintro e a' w' ⟨rfl, hd, hC⟩
    cases c₀
    simp_all [bodyPostS, results, Tryz.results35, Caught]
end Go.Proofs.YtmkfeanggmjhmaaGreat.S
namespace Go.Proofs.YtmkfeanggmjhmaaGreat.S
open Go Go.RowKit Go.Shelf Go.Proofs.YtmkfeanggmjhmaaGreatW.PrintWords Go.Proofs.YtmkfeanggmjhmaaGreatW.PrintLast Go.Proofs.YtmkfeanggmjhmaaGreatW.PrintMore
open Go.Proofs.YtmkfeanggmjhmaaGreat.M Go.Proofs.YtmkfeanggmjhmaaGreat.K
set_option linter.unusedSimpArgs false
set_option linter.unusedVariables false
attribute [local go_sem] Oper.semAt_some

theorem tok_info : (Tryz.prog.info? 30).map (fun i => (i.zero, i.size, i.bytes)) = some (some (.agg #[.int .i64 0, .string ⟨#[]⟩, .int .i64 0]), 3, 32) := by kernel_rfl

theorem toks_new (W : World) (x : Tok) : ∀ j u, (tokCells x)[j]? = some u → (W.alloc (.cells #[.int .i64 x.kind, .string x.text, .int .i64 x.at_] 30)).cell? ((⟨W.heap.size, 0, none⟩ : Addr).add j) = some u := by
  intro j u hj
  have h := cells_at W #[.int .i64 x.kind, .string x.text, .int .i64 x.at_] 30 W.heap.size j rfl
  have e : ((⟨W.heap.size, 0, none⟩ : Addr).add j) = ⟨W.heap.size, j, none⟩ := by cases j <;> simp [Addr.add]
  rw [e, h]
  simpa [tokCells] using hj

/-- how scan ends: v holds the tokens xs -/
def ScanEnd (sc : List Tok × Option (Nat × Int)) (w : World) (r : Ending) (w' : World) : Prop :=
  ∃ v xs q c, r = .returned (.tuple #[v, .int .i64 q, .int .i64 c]) ∧ w'.ownsRow w.heap.size 30 3 v xs.length (xs.flatMap tokCells) ∧
    (sc = (xs, none) ∧ q = 0 ∧ c = 0 ∨ ∃ pre q', sc = (pre, some (q', c)) ∧ q = (q' : Nat) ∧ xs = []) ∧ Below w.heap.size w w'

/-- what lies between two rounds: the box of the result holds a row of the tokens; the boxes of the place and of the error are as they were made -/
def ScanI (b : Nat) (w W0 : World) (pre : List Tok) (M : Nat → Prop) (W : World) : Prop :=
  ∃ v, W.cell? ⟨b, 0, none⟩ = some v ∧ W.frozen? ⟨b, 0, none⟩ = false ∧ (∀ k, M k ↔ (k = b ∨ v.ownBlock = some k)) ∧ W.ownsRow W0.heap.size 30 3 v pre.length (pre.flatMap tokCells) ∧
    W.cell? ⟨b + 1, 0, none⟩ = some (.int .i64 0) ∧ W.frozen? ⟨b + 1, 0, none⟩ = false ∧ W.cell? ⟨b + 2, 0, none⟩ = some (.int .i64 0) ∧ W.frozen? ⟨b + 2, 0, none⟩ = false ∧ Below b w W ∧ W0.heap.size ≤ W.heap.size

theorem Chg.frozen {T : Nat → Prop} {A B : World} (h : Chg T A B) {b off : Nat} {v : Value} (hv : A.cell? ⟨b, off, none⟩ = some v) (hf : A.frozen? ⟨b, off, none⟩ = false) (hn : ¬ T b) : B.frozen? ⟨b, off, none⟩ = false := by
  rw [← hf]; exact World.frozen?_of_block (h.block _ (lt_of_cell hv) hn)

theorem own_slice {w : World} {base : Nat} {e : TypeId} {size n : Nat} {v : Value} {xs : List Value} (h : w.ownsRow base e size v n xs) : ∃ A c, v = .slice A n c := by
  rcases h.2 with ⟨rfl, rfl⟩ | ⟨g, cap, cur, rfl, _⟩
  · exact ⟨_, _, rfl⟩
  · exact ⟨_, _, rfl⟩

theorem ScanI.chg {b : Nat} {w W0 : World} {pre : List Tok} {M : Nat → Prop} {A B : World} {T : Nat → Prop} (hb : b + 5 ≤ W0.heap.size) (h : ScanI b w W0 pre M A) (hc : Chg T A B) (hT : ∀ k, T k → W0.heap.size ≤ k ∧ ¬ M k) : ScanI b w W0 pre M B := by
  obtain ⟨v, h1, h2, hM, ho, h3, h4, h5, h6, h7, h8⟩ := h
  have n0 : ¬ T b := fun e => by have := (hT _ e).1; omega
  have n1 : ¬ T (b + 1) := fun e => by have := (hT _ e).1; omega
  have n2 : ¬ T (b + 2) := fun e => by have := (hT _ e).1; omega
  refine ⟨v, hc.cell h1 n0, Chg.frozen hc h1 h2 n0, hM, ?_, hc.cell h3 n1, Chg.frozen hc h3 h4 n1, hc.cell h5 n2, Chg.frozen hc h5 h6 n2, h7.trans (hc.below (by omega) (fun k hk => by have := (hT _ hk).1; omega)), by have := hc.size; omega⟩
  exact own_move ho (fun k hk => hc.block k (own_lt ho k hk) (fun e => (hT k e).2 ((hM k).2 (.inr hk))))

set_option maxHeartbeats 4000000 in
theorem scan_calls (bm n : Nat) (p : List UInt8 → Bool) (s : ByteArray) (w : World) (hk : KwSet w bm n p) (hs : s.size ≤ 1000000000) :
    Calls Tryz.prog 21 #[.map (some bm), .string s] w (ScanEnd (scanE p s) w) := by
  have hbm : bm < w.heap.size := hk.lt
  have hmf : ∀ (fn : Fn) (first cap : Array Value) (w : World), (Instr.makeFunc fn first cap).run Tryz.prog w = .ok (.func fn first cap) w := fun _ _ _ _ => rfl
  have HT := Lib.hid (fun bx w => tokens_calls bx w)
  generalize hSC : scanE p s = SC
  have HSC := Lib.hid hSC
  clear hSC
  refine (callsIn_wide (n := 0)).1 ?_
  refine callsIn_of_wp_marks Tryz.func21 rfl trivial ?_ rfl
  simp only [Tryz.ntmps21, List.size_toArray, List.length_cons, List.length_nil, Nat.reduceAdd, Nat.reduceSub, Array.replicate_succ, Array.replicate_zero, List.push_toArray, List.append_toArray, List.nil_append, List.cons_append]
  gi_wp2
  refine ⟨trivial, rfl, ?_⟩
  refine (callsIn_wide.2 (HT.out _ _)).mono ?_
  rintro e w1 ⟨rfl, rfl⟩
  gi_wp2
  obtain ⟨W3, hW3⟩ : ∃ W3, ((w.alloc (.cells #[.slice none 0 0] 25)).alloc (.cells #[.int .i64 0] 3)).alloc (.cells #[.int .i64 0] 26) = W3 := ⟨_, rfl⟩
  obtain ⟨W0, hW0⟩ : ∃ W0, (W3.alloc (.cells #[.map (some bm), .string s] 68)).alloc (.cells #[.pointer (some ⟨w.heap.size + 1 + 1 + 1, 0, none⟩)] 66) = W0 := ⟨_, rfl⟩
  have hs3 : W3.heap.size = w.heap.size + 3 := by rw [← hW3]; simp
  have hs0 : W0.heap.size = w.heap.size + 5 := by rw [← hW0]; simp; omega
  have hc3 : Chg (fun _ => False) w W3 := by rw [← hW3]; exact ((Chg.alloc _ _ _).trans (Chg.alloc _ _ _)).trans (Chg.alloc _ _ _)
  have hc30 : Chg (fun _ => False) W3 W0 := by rw [← hW0]; exact (Chg.alloc _ _ _).trans (Chg.alloc _ _ _)
  have hk0 : KwSet W0 bm n p := hk.chg (hc3.trans hc30) (fun e => e)
  have hb0 : Below w.heap.size w W0 := (hc3.trans hc30).below (Nat.le_refl _) (fun _ h => h.elim)
  have ca : W3.cell? ⟨w.heap.size, 0, none⟩ = some (.slice none 0 0) := by rw [← hW3, cell_old _ _ _ _ (by simp; omega), cell_old _ _ _ _ (by simp)]; exact cells_at w _ _ _ 0 rfl
  have fa : W3.frozen? ⟨w.heap.size, 0, none⟩ = false := by rw [← hW3, frozen_old _ _ _ _ (by simp; omega), frozen_old _ _ _ _ (by simp)]; exact frozen_at w _ _ _ 0 rfl
  have cb : W3.cell? ⟨w.heap.size + 1, 0, none⟩ = some (.int .i64 0) := by rw [← hW3, cell_old _ _ _ _ (by simp)]; exact cells_at _ _ _ _ 0 (by simp)
  have fb : W3.frozen? ⟨w.heap.size + 1, 0, none⟩ = false := by rw [← hW3, frozen_old _ _ _ _ (by simp)]; exact frozen_at _ _ _ _ 0 (by simp)
  have cc : W3.cell? ⟨w.heap.size + 2, 0, none⟩ = some (.int .i64 0) := by rw [← hW3]; exact cells_at _ _ _ _ 0 (by simp)
  have fc : W3.frozen? ⟨w.heap.size + 2, 0, none⟩ = false := by rw [← hW3]; exact frozen_at _ _ _ _ 0 (by simp)
  have cd0 : W0.cell? ⟨w.heap.size + 3, 0, none⟩ = some (.map (some bm)) := by rw [← hW0, cell_old _ _ _ _ (by simp; omega)]; exact cells_at _ _ _ _ 0 (by omega)
  have cd1 : W0.cell? ⟨w.heap.size + 3, 1, none⟩ = some (.string s) := by rw [← hW0, cell_old _ _ _ _ (by simp; omega)]; exact cells_at _ _ _ _ 1 (by omega)
  have ce : W0.cell? ⟨w.heap.size + 4, 0, none⟩ = some (.pointer (some ⟨w.heap.size + 3, 0, none⟩)) := by rw [← hW0]; exact cells_at _ _ _ _ 0 (by simp; omega)
  have hI0 : ScanI w.heap.size w W0 [] (fun k => k = w.heap.size) W0 :=
    ⟨_, hc30.cell ca (fun e => e), Chg.frozen hc30 ca fa (fun e => e), fun k => by simp [Value.ownBlock], World.ownsRow_nil _ _ _ _, hc30.cell cb (fun e => e), Chg.frozen hc30 cb fb (fun e => e), hc30.cell cc (fun e => e), Chg.frozen hc30 cc fc (fun e => e), hb0, Nat.le_refl _⟩
  rw [hW3, hW0]
  clear hW3 hW0 ca fa cb fb cc fc hc3 hc30 hs3 hk HT
  have hinfo := tok_info
  obtain ⟨i0, hi, hzz⟩ := Option.map_eq_some_iff.1 hinfo
  simp only [Prod.mk.injEq] at hzz
  obtain ⟨hz0, hz1, hz2⟩ := hzz
  have HI := Lib.hid hi
  have HZ0 := Lib.hid hz0
  have HZ1 := Lib.hid hz1
  have HZ2 := Lib.hid hz2
  clear hinfo hi hz0 hz1 hz2
  refine wp_rangeFunc (gf := 46) (lb := #[.pointer (some ⟨w.heap.size + 1 + 1 + 1 + 1, 0, none⟩)]) rfl (enters_of Tryz.func46 (by kernel_rfl) rfl)
    (fun W1 hc1 _ => tokens_iter (w.heap.size + 4) (w.heap.size + 3) bm n p s W1 (hc1.cell ce (fun e => e)) (hc1.cell cd0 (fun e => e)) (hc1.cell cd1 (fun e => e)) (hk0.chg hc1 (fun e => e)) (by omega))
    ⟨by omega, by omega, by omega⟩ (fun x => rfl) (fun k => k = w.heap.size) (fun k hk => ⟨⟨by omega, by omega, by omega⟩, by omega⟩)
    (ScanI w.heap.size w W0) (fun _ _ _ _ => False)
    (fun pre M A B h hc => ScanI.chg (by omega) h hc (fun k hk => hk)) (fun _ _ _ _ _ h _ => h) ?_ hI0
    (fun x a1 A => ∃ bt, W0.heap.size + 2 ≤ bt ∧ bt < A.heap.size ∧ A.cell? ⟨bt, 0, none⟩ = some (.int .i64 x.kind) ∧ A.cell? ⟨bt, 1, none⟩ = some (.string x.text) ∧ A.cell? ⟨bt, 2, none⟩ = some (.int .i64 x.at_) ∧
      a1 = { tmps := #[.map (some bm), .string s, undef, undef, .pointer (some ⟨w.heap.size, 0, none⟩), .pointer (some ⟨w.heap.size + 1, 0, none⟩), .pointer (some ⟨w.heap.size + 1 + 1, 0, none⟩), .pointer (some ⟨bt, 0, none⟩),
          .func (.func 35) #[] #[.pointer (some ⟨w.heap.size, 0, none⟩), .pointer (some ⟨w.heap.size + 1, 0, none⟩), .pointer (some ⟨w.heap.size + 1 + 1, 0, none⟩)],
          .map (some bm), .string s, .agg #[.map (some bm), .string s], .pointer (some ⟨w.heap.size + 1 + 1 + 1, 0, none⟩), .func (.func 46) #[] #[.pointer (some ⟨w.heap.size + 1 + 1 + 1 + 1, 0, none⟩)],
          .agg #[.int .i64 x.kind, .string x.text, .int .i64 x.at_], undef, undef, undef, undef, undef], defers := [] })
    ?_ ?assign ?body ?done ?stop ?panic
  · rintro pre M A ⟨v, h1, h2, hM, ho, _, _, _, _, _, h8⟩ k hk
    rcases (hM k).1 hk with rfl | h
    · exact lt_of_cell h1
    · exact own_lt ho k h
  · rintro x a1 A B ⟨bt, h1, h2, h3, h4, h5, h6⟩ hc
    exact ⟨bt, h1, by have := hc.size; omega, hc.cell h3 (by show bt ≠ _; omega), hc.cell h4 (by show bt ≠ _; omega), hc.cell h5 (by show bt ≠ _; omega), h6⟩
  case assign =>
    intro l x W hW
    clear hs0
    unfold encT
    gi_wp2
    exact ⟨⟨W.heap.size, hW, by simp, cells_at _ _ _ _ 0 rfl, cells_at _ _ _ _ 1 rfl, cells_at _ _ _ _ 2 rfl, rfl⟩, Chg.alloc _ _ _⟩
  case body =>
    rintro l pre M x a1 sz W hI hMs hlen ⟨bt, hb1, hb2, hx0, hx1, hx2, rfl⟩ hsz hsW
    obtain ⟨v, h1, h2, hM, ho, h3, h4, h5, h6, h7, h8⟩ := hI
    have hne : ∀ k, v.ownBlock = some k → W0.heap.size ≤ k := own_base ho
    have hltk : ∀ k, v.ownBlock = some k → k < W.heap.size := own_lt ho
    have hle : W0.heap.size ≤ W.heap.size := h8
    have HNB : Hid (¬ v.ownBlock = some w.heap.size) := Lib.hid (fun e => by have := hne _ e; omega)
    have HO := Lib.hid ho
    have HM := Lib.hid hM
    have HNE := Lib.hid hne
    have HLT := Lib.hid hltk
    have H7 := Lib.hid h7
    have H8 := Lib.hid h8
    have HS := Lib.hid hs0
    have HMS := Lib.hid hMs
    have hblt : w.heap.size < W.heap.size := by omega
    clear ho hM hne hltk h7 h8 hs0 hMs hk0 hb0 ce cd0 cd1 hI0 hle
    gi_wp2_with (gi_at_builtin; go_loud (refine wpListIn_append_own_at _ rfl _ _ 25 rfl W0.heap.size 30 i0 _ 3 32 Tryz.underlying25 HI.out HZ0.out HZ1.out HZ2.out rfl (by decide) _ _ _ rfl (HO.out.alloc _) ⟨W.heap.size, 0, none⟩ 1 1 (tokCells x) rfl rfl (toks_new W x) (by simp [tokCells, Value.oneCell']) (by have := hlen; simp only [maxLen]; omega) (by omega) (by have := H8.out; simp; omega) ?_; intro v' w1 hown' hgrow _ hat; obtain ⟨g', cap', rfl⟩ := ownsRow_succ hown'; have hcg : Chg (fun k => v.ownBlock = some k) W w1 := (Chg.alloc _ _ _).trans (Chg.grown hgrow (fun k e => .inl e)); have hc1 := hcg.cell h1 HNB.out; have hf1 := Chg.frozen hcg h1 h2 HNB.out; have Hown := Lib.hid hown'; have Hat := Lib.hid hat; clear hown' hgrow hat))
    have hg' : W0.heap.size ≤ g' := own_base Hown.out g' rfl
    have hC2 : Chg (fun k => k = w.heap.size ∨ v.ownBlock = some k) W (w1.setCell ⟨w.heap.size, 0, none⟩ (.slice (some ⟨g', 0, none⟩) (pre.length + 1) cap')) :=
      (hcg.mono (fun k h => .inr h)).trans (Chg.setCell (p := ⟨w.heap.size, 0, none⟩) (.inl rfl) _)
    have hS := HS.out
    have nb1 : ¬ (w.heap.size + 1 = w.heap.size ∨ v.ownBlock = some (w.heap.size + 1)) := fun e => e.elim (by omega) (fun e => by have := HNE.out _ e; omega)
    have nb2 : ¬ (w.heap.size + 2 = w.heap.size ∨ v.ownBlock = some (w.heap.size + 2)) := fun e => e.elim (by omega) (fun e => by have := HNE.out _ e; omega)
    refine ⟨fun k => k = w.heap.size ∨ k = g', ⟨_, World.cell?_setCell_same' _ _ _ (by rw [hc1]; rfl), by rw [World.frozen?_setCell]; exact hf1, fun k => by simp [Value.ownBlock, eq_comm], ?_, hC2.cell h3 nb1, Chg.frozen hC2 h3 h4 nb1, hC2.cell h5 nb2, Chg.frozen hC2 h5 h6 nb2, ?_, ?_⟩, ?_, ?_⟩
    · have hl : (pre ++ [x]).length = pre.length + 1 := by simp
      have hf : (pre ++ [x]).flatMap tokCells = pre.flatMap tokCells ++ tokCells x := by simp
      rw [hl, hf]
      exact own_move Hown.out (fun k hk => Below.heap_setCell w1 _ _ k (by
        have : g' = k := by simpa [Value.ownBlock] using hk
        show k ≠ w.heap.size
        omega))
    · refine H7.out.trans (hC2.below (by omega) ?_)
      rintro k (rfl | hk)
      · exact Nat.le_refl _
      · have := HNE.out _ hk; omega
    · have := hC2.size; have := H8.out; omega
    · refine hC2.mono ?_
      rintro k (rfl | hk)
      · exact .inl ((HM.out _).2 (.inl rfl))
      · exact .inl ((HM.out _).2 (.inr hk))
    · rintro k (rfl | rfl)
      · exact .inl ((HM.out _).2 (.inl rfl))
      · rcases Hat.out with h | h
        · exact .inl ((HM.out _).2 (.inr (h.symm.trans rfl)))
        · refine .inr ?_
          have : k = W.heap.size + 1 := by simpa [Value.ownBlock] using h
          omega
  case done =>
    rintro D xs M W hD hS hI hK
    have HI2 := Lib.hid hI
    obtain ⟨v, h1, h2, hM, ho, h3, h4, h5, h6, h7, h8⟩ := hI
    obtain ⟨A, cp, rfl⟩ := own_slice ho
    have hsa := setCell_self h1
    have hsb := setCell_self h3
    have hsc := setCell_self h5
    have HO := Lib.hid ho
    have HSx := Lib.hid hS
    have H7 := Lib.hid h7
    have HD := Lib.hid hD
    clear ho hS h7 h8 hM hD hI0 hk0 hb0 ce cd0 cd1
    gi_wp2
    have hc2 : Chg (fun k => k = D) W (W.putObj D (.deferred none)) := Chg.putObj (T := fun k => k = D) rfl _
    have hd := HD.out
    have nD : ∀ k, Value.ownBlock (.slice A xs.length cp) = some k → k ≠ D := fun k hk e => by obtain ⟨cells, hcl⟩ := own_typed HO.out k hk; rw [e, hK] at hcl; cases hcl
    refine ⟨by simp, .inl ⟨D, _, rfl, run_takeDeferred hK, ?_⟩⟩
    refine ⟨by simp, .inr ⟨fun h => by simp [Fence.wide] at h, _, _, 35, #[.pointer (some ⟨w.heap.size, 0, none⟩), .pointer (some ⟨w.heap.size + 1, 0, none⟩), .pointer (some ⟨w.heap.size + 1 + 1, 0, none⟩)], rfl, by simp [go_sem], fun g _ => trivial, ?_⟩⟩
    refine (catch_idle _ _ _ _).mono ?_
    rintro e u' w2 ⟨rfl, rfl, rfl⟩
    have ka := hc2.cell h1 (by show w.heap.size ≠ D; omega)
    have kb := hc2.cell h3 (by show w.heap.size + 1 ≠ D; omega)
    have kc := hc2.cell h5 (by show w.heap.size + 2 ≠ D; omega)
    simp only [LeavesInM, LeavesIn, settle]
    refine ⟨.tuple #[.slice A xs.length cp, .int .i64 0, .int .i64 0], by simp [results, Tryz.results21, go_sem, ka, kb, kc], _, xs, 0, 0, rfl, ?_, .inl ⟨HSC.out.symm.trans HSx.out, rfl, rfl⟩, ?_⟩
    · exact own_weaken (own_move HO.out (fun k hk => hc2.block k (own_lt HO.out k hk) (nD k hk))) (by omega)
    · exact H7.out.trans (hc2.below (by have := H7.out.size; omega) (fun k hk => by omega))
  case stop =>
    rintro D c pre M W hD _ h _
    exact h.elim
  case panic =>
    rintro D chain pre M W hD ⟨q, c, hq, rfl⟩ hI hK
    obtain ⟨v, h1, h2, hM, ho, h3, h4, h5, h6, h7, h8⟩ := hI
    have hc2 : Chg (fun k => k = D) W (W.putObj D (.deferred none)) := Chg.putObj (T := fun k => k = D) rfl _
    refine ⟨by simp, .inl ⟨D, _, rfl, run_takeDeferred hK, ?_⟩⟩
    refine ⟨by simp, .inr ⟨fun h => by simp [Fence.wide] at h, _, _, 35, #[.pointer (some ⟨w.heap.size, 0, none⟩), .pointer (some ⟨w.heap.size + 1, 0, none⟩), .pointer (some ⟨w.heap.size + 1 + 1, 0, none⟩)], rfl, by simp [go_sem], fun g _ => trivial, ?_⟩⟩
    refine (catch_panicking w.heap.size _ _ _ q c [] _ (hc2.cell h1 (by show w.heap.size ≠ D; omega)) (hc2.cell h3 (by show w.heap.size + 1 ≠ D; omega)) (hc2.cell h5 (by show w.heap.size + 2 ≠ D; omega))
      (Chg.frozen hc2 h1 h2 (by show w.heap.size ≠ D; omega)) (Chg.frozen hc2 h3 h4 (by show w.heap.size + 1 ≠ D; omega)) (Chg.frozen hc2 h5 h6 (by show w.heap.size + 2 ≠ D; omega))).mono ?_
    rintro e u' w2 ⟨rfl, rfl, hc3, hca, hcb, hcc⟩
    simp only [LeavesInM, LeavesIn, settle]
    refine ⟨.tuple #[.slice none 0 0, .int .i64 q, .int .i64 c], by simp [results, Tryz.results21, go_sem, hca, hcb, hcc], _, [], q, c, rfl, World.ownsRow_nil _ _ _ _, .inr ⟨pre, q, HSC.out.symm.trans hq, rfl, rfl⟩, ?_⟩
    exact h7.trans ((hc2.below (n := w.heap.size) (by have := h7.size; omega) (fun k hk => by omega)).trans (hc3.below (by have := h7.size; have := hc2.size; omega) (fun k hk => by omega)))
end Go.Proofs.YtmkfeanggmjhmaaGreat.S
namespace Go.Proofs.YtmkfeanggmjhmaaGreat.S
open Go Go.RowKit Go.Shelf Go.Proofs.YtmkfeanggmjhmaaGreatW.PrintWords Go.Proofs.YtmkfeanggmjhmaaGreatW.PrintLast Go.Proofs.YtmkfeanggmjhmaaGreatW.PrintMore
open Go.Proofs.YtmkfeanggmjhmaaGreat.M Go.Proofs.YtmkfeanggmjhmaaGreat.K
set_option linter.unusedSimpArgs false
set_option linter.unusedVariables false

/-- the keywords as a set -/
def kwp (l : List ByteArray) (t : List UInt8) : Bool := l.any (fun x => t == x.data.toList)
/-- what Scan returns: tokens, a place, an error -/
def scanAll (l : List ByteArray) (s : ByteArray) : List Tok × Nat × Int :=
  if checkE l ≠ 0 then ([], 0, checkE l) else if 40000 < s.size then ([], 0, 7) else
    match scanE (kwp l) s with
    | (xs, none) => (xs, 0, 0)
    | (_, some (q, c)) => ([], q, c)

def TokRow (w : World) (base : Nat) (v : Value) (xs : List Tok) : Prop := w.ownsRow base 30 3 v xs.length (xs.flatMap tokCells)

theorem TokRow.nil (w : World) (base : Nat) : TokRow w base (.slice none 0 0) [] := World.ownsRow_nil _ _ _ _
def ScanAllEnd (R : List Tok × Nat × Int) (w : World) (r : Ending) (w' : World) : Prop :=
  ∃ v, r = .returned (.tuple #[v, .int .i64 R.2.1, .int .i64 R.2.2]) ∧ TokRow w' w.heap.size v R.1 ∧ Below w.heap.size w w'

set_option maxHeartbeats 1000000 in
theorem Scan_calls (A : Option Addr) (c : Nat) (l : List ByteArray) (hl : ∀ x ∈ l, x.size ≤ 1000000000000) (hc : l.length ≤ c) (s : ByteArray) (w : World) (hr : Kd.C Kd.string w A l.length l) :
    Calls Tryz.prog 8 #[.slice A l.length c, .string s] w (ScanAllEnd (scanAll l s) w) := by
  have HW := Lib.hid (words_calls A c l hl hc w hr)
  clear hl hc hr
  generalize hR : scanAll l s = R
  unfold scanAll at hR
  unfold WordsEnd at HW
  generalize hE : checkE l = E at HW hR
  clear hE
  by_cases hE0 : E = 0
  · subst hE0
    rw [if_neg (by decide)] at hR
    by_cases hbig : 40000 < s.size
    · rw [if_pos hbig] at hR
      subst hR
      have g : (40000 : Int) < (s.size : Int) := by omega
      clear hbig
      go_enter Tryz.func8, Tryz.ntmps8
      go_wp2_with (go_at_call 20; refine HW.out.mono ?_; rintro e w' ⟨rfl, _, hb⟩; simp only [if_true])
      go_ret3
      exact ⟨_, rfl, TokRow.nil _ _, hb⟩
    · rw [if_neg hbig] at hR
      have g : ¬ (40000 : Int) < (s.size : Int) := by omega
      have hsz : s.size ≤ 1000000000 := by omega
      have HS := Lib.hid (fun bm n w hk => scan_calls bm n (kwp l) s w hk hsz)
      have HR := Lib.hid hR
      clear hbig hR hsz
      go_enter Tryz.func8, Tryz.ntmps8
      go_wp2_with fail
      refine HW.out.mono ?_
      rintro e w' ⟨rfl, hk, hb⟩
      have HK := Lib.hid (hk trivial)
      clear hk
      simp only [if_true]
      go_wp2_with fail
      refine (HS.out _ _ _ HK.out).mono ?_
      rintro e w2 ⟨v, xs, q, c2, rfl, ho, hsc, hb2⟩
      obtain ⟨A2, cp, rfl⟩ := own_slice ho
      have HO := Lib.hid ho
      have HC := Lib.hid hsc
      clear ho hsc
      go_wp2
      go_ret3
      have hb3 := hb2.mono hb.size
      rcases HC.out with ⟨h1, rfl, rfl⟩ | ⟨pre, q', h1, rfl, rfl⟩
      · have h2 := HR.out
        rw [h1] at h2
        simp only at h2
        subst h2
        exact ⟨_, rfl, own_weaken HO.out hb.size, hb.trans hb3⟩
      · have h2 := HR.out
        rw [h1] at h2
        simp only at h2
        subst h2
        exact ⟨_, rfl, own_weaken HO.out hb.size, hb.trans hb3⟩
  · rw [if_pos hE0] at hR
    subst hR
    have g : (E == 0) = false := by simpa using hE0
    have g' : (E != 0) = true := by simpa using hE0
    rw [if_neg hE0] at HW
    clear hE0
    go_enter Tryz.func8, Tryz.ntmps8
    go_wp2_with (go_at_call 20; refine HW.out.mono ?_; rintro e w' ⟨rfl, _, hb⟩)
    go_ret3
    exact ⟨_, rfl, TokRow.nil _ _, hb⟩
end Go.Proofs.YtmkfeanggmjhmaaGreat.S
namespace Go.Proofs.YtmkfeanggmjhmaaGreat.S
open Go Go.RowKit Go.Shelf Go.Proofs.YtmkfeanggmjhmaaGreatW.PrintWords Go.Proofs.YtmkfeanggmjhmaaGreatW.PrintLast Go.Proofs.YtmkfeanggmjhmaaGreatW.PrintMore
open Go.Proofs.YtmkfeanggmjhmaaGreat.M Go.Proofs.YtmkfeanggmjhmaaGreat.K
set_option linter.unusedSimpArgs false
set_option linter.unusedVariables false

theorem Few1_calls (s : ByteArray) (w : World) :
    Calls Tryz.prog 19 #[.string s] w fun r w' => r = .returned (.bool (decide (60 < s.size))) ∧ w' = w := by
  by_cases h : 60 < s.size
  · have g : (60 : Int) < (s.size : Int) := by omega
    rw [decide_eq_true h]
    go_enter Tryz.func19, Tryz.ntmps19
    go_wp2
    go_ret
    exact ⟨rfl, rfl⟩
  · have g : ¬ (60 : Int) < (s.size : Int) := by omega
    rw [decide_eq_false h]
    go_enter Tryz.func19, Tryz.ntmps19
    go_wp2
    go_ret
    exact ⟨rfl, rfl⟩

theorem IndexFunc_calls (A : Option Addr) (c : Nat) (l : List ByteArray) (hc : l.length ≤ c) (w : World) (hr : Kd.C Kd.string w A l.length l) (hl : l.length ≤ 1000000000000) :
    Calls Tryz.prog 33 #[.slice A l.length c, .func (.func 19) #[] #[]] w fun r w' =>
      (∃ i : Int, r = .returned (.int .i64 i) ∧ (decide (0 ≤ i) = l.any (fun x => decide (60 < x.size)))) ∧ w' = w := by
  have Hr := Lib.hid hr
  clear hr
  generalize hB : l.any (fun x => decide (60 < x.size)) = B
  have HB := Lib.hid hB
  clear hB
  go_enter Tryz.func33, Tryz.ntmps33
  go_wp2
  go_loopg [8] l.length (fun gg v wr => ∃ k : Nat, v = .int .i64 k ∧ k ≤ l.length ∧ l.length - k ≤ gg ∧ Hid ((l.drop k).any (fun x => decide (60 < x.size)) = B) ∧ wr = w)
  case atStart => exact ⟨0, rfl, by omega, by omega, by simpa using HB, rfl⟩
  case round =>
    obtain ⟨k, rfl, hk, hg, HL, rfl⟩ := hrel
    by_cases hlt : k < l.length
    · have hltz : (k : Int) < (l.length : Int) := by omega
      obtain ⟨ad, rfl, hcell⟩ := str_at Hr.out k hlt
      have Hd : Hid (l.drop k = (l[k]'hlt) :: l.drop (k + 1)) := List.drop_eq_getElem_cons hlt
      generalize l[k]'hlt = x at hcell Hd
      have HF := Lib.hid (fun w => Few1_calls x w)
      rw [Hd.out, List.any_cons] at HL
      by_cases h60 : 60 < x.size
      · rw [decide_eq_true h60] at HF HL
        rw [Bool.true_or] at HL
        obtain rfl := HL.out
        clear h60
        go_wp2_with (go_at_call 19; refine (HF.out _).mono ?_; rintro e w' ⟨rfl, rfl⟩)
        go_ret
        exact ⟨⟨_, rfl, by simp⟩, rfl⟩
      · rw [decide_eq_false h60] at HF HL
        rw [Bool.false_or] at HL
        clear h60
        go_wp2_with (go_at_call 19; refine (HF.out _).mono ?_; rintro e w' ⟨rfl, rfl⟩)
        go_roundg (l.length - (k + 1))
        case measure => omega
        case rel => exact ⟨k + 1, by go_num, by omega, Nat.le_refl _, HL, rfl⟩
    · have hltz : ¬ (k : Int) < (l.length : Int) := by omega
      have h0 := HL.out
      rw [List.drop_eq_nil_of_le (by omega)] at h0
      clear HL
      obtain rfl : false = B := by simpa using h0
      clear h0
      go_wp2
      go_ret
      exact ⟨⟨_, rfl, by simp⟩, rfl⟩

theorem ContainsFunc_calls (A : Option Addr) (c : Nat) (l : List ByteArray) (hc : l.length ≤ c) (w : World) (hr : Kd.C Kd.string w A l.length l) (hl : l.length ≤ 1000000000000) :
    Calls Tryz.prog 18 #[.slice A l.length c, .func (.func 19) #[] #[]] w fun r w' =>
      r = .returned (.bool (l.any (fun x => decide (60 < x.size)))) ∧ w' = w := by
  have HI := Lib.hid (IndexFunc_calls A c l hc w hr hl)
  clear hr
  generalize l.any (fun x => decide (60 < x.size)) = B at HI
  go_enter Tryz.func18, Tryz.ntmps18
  go_wp2_with fail
  refine HI.out.mono ?_
  rintro e w' ⟨⟨i, rfl, hi⟩, rfl⟩
  subst hi
  go_wp2
  go_ret
  exact ⟨rfl, rfl⟩

def fewB (most : Int) (l : List ByteArray) (s : ByteArray) : Bool := decide (l.length ≤ 20) && decide ((s.size : Int) ≤ most) && !(l.any (fun x => decide (60 < x.size)))
theorem Few_calls (most : Int) (A : Option Addr) (c : Nat) (l : List ByteArray) (hc : l.length ≤ c) (s : ByteArray) (w : World) (hr : Kd.C Kd.string w A l.length l) :
    Calls Tryz.prog 6 #[.int .i64 most, .slice A l.length c, .string s] w fun r w' => r = .returned (.bool (fewB most l s)) ∧ w' = w := by
  unfold fewB
  by_cases h20 : l.length ≤ 20
  · have HI := Lib.hid (ContainsFunc_calls A c l hc w hr (by omega))
    clear hr
    rw [decide_eq_true h20, Bool.true_and]
    have g20 : (l.length : Int) ≤ 20 := by omega
    generalize l.any (fun x => decide (60 < x.size)) = B at HI ⊢
    by_cases hm : (s.size : Int) ≤ most
    · rw [decide_eq_true hm, Bool.true_and]
      clear h20
      go_enter Tryz.func6, Tryz.ntmps6
      go_wp2_with (go_at_call 18; refine HI.out.mono ?_; rintro e w' ⟨rfl, rfl⟩)
      go_ret
      exact ⟨rfl, rfl⟩
    · rw [decide_eq_false hm, Bool.false_and]
      clear h20
      go_enter Tryz.func6, Tryz.ntmps6
      go_wp2
      go_ret
      exact ⟨rfl, rfl⟩
  · clear hr
    rw [decide_eq_false h20, Bool.false_and, Bool.false_and]
    have g20 : ¬ (l.length : Int) ≤ 20 := by omega
    clear h20
    go_enter Tryz.func6, Tryz.ntmps6
    go_wp2
    go_ret
    exact ⟨rfl, rfl⟩

theorem awake_calls (w : World) : Calls Tryz.prog 7 #[] w fun r w' => r = .returned (.bool true) ∧ Below w.heap.size w w' := by
  have HS := Lib.hid (Scan_calls none 0 [] (by simp) (Nat.le_refl _) ⟨#[97]⟩ w ⟨rfl, by decide, fun h => absurd h (by decide)⟩)
  have e : scanAll [] ⟨#[97]⟩ = ([⟨1, ⟨#[97]⟩, 0⟩], 0, 0) := by kernel_rfl
  rw [e] at HS
  clear e
  unfold ScanAllEnd at HS
  simp only at HS
  change Hid (Calls _ _ #[.slice none 0 0, _] _ _) at HS
  go_enter Tryz.func7, Tryz.ntmps7
  go_wp2_with fail
  refine HS.out.mono ?_
  rintro e w' ⟨v, rfl, ho, hb⟩
  obtain ⟨A2, cp, rfl⟩ := own_slice ho
  clear ho
  go_wp2
  go_ret
  exact ⟨rfl, hb⟩
end Go.Proofs.YtmkfeanggmjhmaaGreat.S
