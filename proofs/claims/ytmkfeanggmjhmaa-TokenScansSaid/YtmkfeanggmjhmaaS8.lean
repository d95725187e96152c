/- Walk: the iterator of tokens. -/
import Derived.Test.YtmkfeanggmjhmaaS6
import Derived.Test.YtmkfeanggmjhmaaS7
import Derived.Test.YtmkfeanggmjhmaaM
namespace Go.Proofs.Ytmkfeanggmjhmaa.S
open Go Go.RowKit Go.Shelf Go.Proofs.YtmkfeanggmjhmaaW.PrintWords Go.Proofs.YtmkfeanggmjhmaaW.PrintLast Go.Proofs.YtmkfeanggmjhmaaW.PrintMore
open Go.Proofs.Ytmkfeanggmjhmaa.M Go.Proofs.Ytmkfeanggmjhmaa.K
set_option linter.unusedSimpArgs false
set_option linter.unusedVariables false
attribute [local go_sem] Oper.semAt_some

def encT (x : Tok) : Array Value := #[.agg #[.int .i64 x.kind, .string x.text, .int .i64 x.at_]]

theorem blanks_in (bx : Nat) (s : ByteArray) (i : Int) (h0 : 0 ≤ i) (hi : i ≤ s.size) (w : World) (hx : w.cell? ⟨bx, 1, none⟩ = some (.string s)) (hs : s.size ≤ 1000000000000) (n : Nat) :
    CallsIn Fence.wide n Try.prog 56 #[.pointer (some ⟨bx, 0, none⟩), .int .i64 i] w fun r w' => r = blanksR (blanksE s i.toNat) ∧ Below w.heap.size w w' :=
  callsIn_wide.2 (blanks_calls bx s i h0 hi w hx hs)
theorem one_in (bx bm n : Nat) (p : List UInt8 → Bool) (s : ByteArray) (i : Int) (h0 : 0 ≤ i) (hi : i < s.size) (w : World)
    (hm : w.cell? ⟨bx, 0, none⟩ = some (.map (some bm))) (hx : w.cell? ⟨bx, 1, none⟩ = some (.string s)) (hk : KwSet w bm n p) (hs : s.size ≤ 1000000000000) (m : Nat) :
    CallsIn Fence.wide m Try.prog 57 #[.pointer (some ⟨bx, 0, none⟩), .int .i64 i] w fun r w' => r = oneR i.toNat (oneE p s i.toNat) ∧ Below w.heap.size w w' :=
  callsIn_wide.2 (one_calls bx bm n p s i h0 hi w hm hx hk hs)

/-- how the iterator of tokens ends -/
def TokEnd (sc : List Tok × Option (Nat × Int)) (J Jx : List Tok → (Nat → Prop) → World → Prop) (e : Ending) (W : World) : Prop :=
  (∃ v, e = .returned v ∧ ((∃ xs M, sc = (xs, none) ∧ J xs M W) ∨ (∃ pre M, True ∧ Jx pre M W))) ∨
    (∃ chain pre M, e = .panicked chain ∧ (∃ q c, sc = (pre, some (q, c)) ∧ chain = [{ v := stopV q c, recovered := false }]) ∧ J pre M W)

set_option maxHeartbeats 4000000 in
theorem tokens_iter (bb bx bm n : Nat) (p : List UInt8 → Bool) (s : ByteArray) (w : World) (hbb : w.cell? ⟨bb, 0, none⟩ = some (.pointer (some ⟨bx, 0, none⟩)))
    (hm : w.cell? ⟨bx, 0, none⟩ = some (.map (some bm))) (hx : w.cell? ⟨bx, 1, none⟩ = some (.string s)) (hk : KwSet w bm n p) (hs : s.size ≤ 1000000000000) :
    IterAt Try.prog 55 #[.pointer (some ⟨bb, 0, none⟩)] encT (fun xs => scanE p s = (xs, none)) (fun _ => True)
      (fun pre chain => ∃ q c, scanE p s = (pre, some (q, c)) ∧ chain = [{ v := stopV q c, recovered := false }]) (s.size + 1) (fun k => k ≠ bb ∧ k ≠ bx ∧ k ≠ bm) w := by
  intro l M0 J Jx hM0 hJ hJx hJM hY h0
  have hpan := run_panic_iface
  have hbb0 : bb < w.heap.size := lt_of_cell hbb
  have hbx0 : bx < w.heap.size := lt_of_cell hx
  have hbm0 : bm < w.heap.size := hk.lt
  have HY := Lib.hid hY
  clear hY
  have HJ := Lib.hid hJ
  clear hJ
  have HM0 := Lib.hid hM0
  clear hM0
  have HJM := Lib.hid hJM
  clear hJM
  clear hJx
  have HB0 := Lib.hid (fun i h0 hi W hX => blanks_in bx s i h0 hi W hX hs 0)
  have HO := Lib.hid (fun i h0 hi W hM hX hK => one_in bx bm n p s i h0 hi W hM hX hK hs 0)
  have HB := Lib.hid (HB0.out 0 (by omega) (by omega) w hx)
  change Hid (CallsIn _ _ _ _ _ _ fun r w' => r = blanksR (blanksE s 0) ∧ _) at HB
  change CallsIn _ _ _ _ _ _ (TokEnd (scanE p s) J Jx)
  generalize hSC : scanE p s = SC
  unfold scanE at hSC
  refine callsIn_of_wp Try.func55 rfl trivial ?_ rfl
  simp only [Try.ntmps55, List.size_toArray, List.length_cons, List.length_nil, Nat.reduceAdd, Nat.reduceSub, Array.replicate_succ, Array.replicate_zero, List.push_toArray, List.append_toArray, List.nil_append, List.cons_append]
  cases hb0 : blanksE s 0 with
  | error q =>
    rw [hb0] at HB hSC
    have HSC := Lib.hid hSC
    clear hb0 hSC
    gi_wp2
    refine ⟨trivial, rfl, ?_⟩
    refine HB.out.mono ?_
    rintro e w1 ⟨rfl, hb⟩
    unfold blanksR stopE
    gi_wp2
    refine ⟨rfl, .inr ⟨_, [], M0, rfl, ⟨q, 162, HSC.out.symm, rfl⟩, ?_⟩⟩
    exact HJ.out _ _ _ _ h0 (Chg.of_fresh hb)
  | ok j =>
    have hcl := blanksE_le (by omega) hb0
    rw [hb0] at HB hSC
    clear hb0
    have hj : j ≤ s.size := hcl.2
    clear hcl
    change scanFrom p s j [] = SC at hSC
    have HSC := Lib.hid hSC
    clear hSC
    gi_wp2
    refine ⟨trivial, rfl, ?_⟩
    refine HB.out.mono ?_
    rintro e w1 ⟨rfl, hb⟩
    unfold blanksR
    gi_wp2
    gi_loopw [3] (fun v wr => ∃ (k : Nat) (pre : List Tok) (M : Nat → Prop), v = .int .i64 k ∧ k ≤ s.size ∧ pre.length ≤ k ∧ Hid (scanFrom p s k pre = SC) ∧ J pre M wr ∧ (∀ b, M b → (b ≠ bb ∧ b ≠ bx ∧ b ≠ bm)) ∧ w.heap.size ≤ wr.heap.size ∧
      wr.cell? ⟨bb, 0, none⟩ = some (.pointer (some ⟨bx, 0, none⟩)) ∧ wr.cell? ⟨bx, 0, none⟩ = some (.map (some bm)) ∧ wr.cell? ⟨bx, 1, none⟩ = some (.string s) ∧ KwSet wr bm n p) (fun v _ => s.size - (intOf v).toNat)
    case atStart =>
      refine ⟨j, [], M0, rfl, hj, by simp, HSC, HJ.out _ _ _ _ h0 (Chg.of_fresh hb), HM0.out, hb.size, ?_, ?_, ?_, hk.below hb hbm0⟩
      · exact (hb.cell (p := ⟨bb, 0, none⟩) hbb0).trans hbb
      · exact (hb.cell (p := ⟨bx, 0, none⟩) hbx0).trans hm
      · exact (hb.cell (p := ⟨bx, 1, none⟩) hbx0).trans hx
    case round =>
      obtain ⟨k, pre, M, rfl, hks, hlen, HR, hJs, hMs, hsz, hbb1, hm1, hx1, hk1⟩ := hrel
      clear hbb hm hx hk h0 HB HSC hb
      by_cases hlt : k < s.size
      · have hltz : (k : Int) < (s.size : Int) := by omega
        have Heq := Lib.hid ((scanFrom_eq p s k pre hlt).symm.trans HR.out)
        have HC := Lib.hid (HO.out k (by omega) hltz wr hm1 hx1 hk1)
        rw [Int.toNat_natCast] at HC
        cases ho : oneE p s k with
        | error c =>
          rw [ho] at Heq HC
          clear ho
          gi_wp2
          refine ⟨trivial, rfl, ?_⟩
          refine HC.out.mono ?_
          rintro e w2 ⟨rfl, hb2⟩
          unfold oneR stopE
          gi_wp2
          refine ⟨rfl, .inr ⟨_, pre, M, rfl, ⟨k, c, Heq.out.symm, rfl⟩, ?_⟩⟩
          exact HJ.out _ _ _ _ hJs (Chg.of_fresh hb2)
        | ok r =>
          obtain ⟨⟨kd, tx⟩, en⟩ := r
          have hel := oneE_lt hlt ho
          simp only at hel
          rw [ho] at Heq HC
          clear ho
          gi_wp2
          refine ⟨trivial, rfl, ?_⟩
          refine HC.out.mono ?_
          rintro e w2 ⟨rfl, hb2⟩
          unfold oneR
          clear HC
          have hbb3 : (w2.alloc (.cells #[.int .i64 kd, .string tx, .int .i64 k] 36)).cell? ⟨bb, 0, none⟩ = some (.pointer (some ⟨bx, 0, none⟩)) :=
            (cell_old _ _ _ _ (by have := hb2.size; omega)).trans ((hb2.cell (p := ⟨bb, 0, none⟩) (by show bb < _; omega)).trans hbb1)
          have hm3 : (w2.alloc (.cells #[.int .i64 kd, .string tx, .int .i64 k] 36)).cell? ⟨bx, 0, none⟩ = some (.map (some bm)) :=
            (cell_old _ _ _ _ (by have := hb2.size; omega)).trans ((hb2.cell (p := ⟨bx, 0, none⟩) (by show bx < _; omega)).trans hm1)
          have hx3 : (w2.alloc (.cells #[.int .i64 kd, .string tx, .int .i64 k] 36)).cell? ⟨bx, 1, none⟩ = some (.string s) :=
            (cell_old _ _ _ _ (by have := hb2.size; omega)).trans ((hb2.cell (p := ⟨bx, 1, none⟩) (by show bx < _; omega)).trans hx1)
          have hk3 : KwSet (w2.alloc (.cells #[.int .i64 kd, .string tx, .int .i64 k] 36)) bm n p := (hk1.below hb2 (by omega)).chg (Chg.alloc (fun _ => False) _ _) (fun e => e)
          have hJ3 := HJ.out _ _ _ (w2.alloc (.cells #[.int .i64 kd, .string tx, .int .i64 k] 36)) hJs ((Chg.of_fresh hb2).trans (Chg.alloc _ _ _))
          have hsz3 : w.heap.size ≤ (w2.alloc (.cells #[.int .i64 kd, .string tx, .int .i64 k] 36)).heap.size := by have := hb2.size; simp; omega
          obtain ⟨fn, tmps, assign, body, hy, hRd⟩ := HY.out pre M ⟨kd, tx, k⟩ _ hJ3 (by omega)
          unfold encT at hy
          dsimp only at hy
          have Hk3 := Lib.hid hk3
          clear hk1 hbb1 hm1 hx1 hk3
          gi_wp2
          generalize w2.alloc (.cells #[.int .i64 kd, .string tx, .int .i64 k] 36) = w3 at hy hRd hbb3 hm3 hx3 Hk3 hJ3 hsz3 ⊢
          refine ⟨rfl, ?_⟩
          refine hRd.mono ?_
          rintro e w4 (⟨rfl, M', hJ4, hc4, hM4⟩ | ⟨rfl, M', hJ4, hc4, hM4⟩)
          · have hbb4 := hc4.cell hbb3 (fun h => (hMs _ h).1 rfl)
            have hm4 := hc4.cell hm3 (fun h => (hMs _ h).2.1 rfl)
            have hx4 := hc4.cell hx3 (fun h => (hMs _ h).2.1 rfl)
            have hk4 := Hk3.out.chg hc4 (fun h => (hMs _ h).2.2 rfl)
            have hs4 := hc4.size
            have HBn := Lib.hid (HB0.out en (by omega) (by omega) w4 hx4)
            rw [Int.toNat_natCast] at HBn
            have Hk4 := Lib.hid hk4
            clear hk4 hbb3 hm3 hx3 Hk3
            cases hbl : blanksE s en with
            | error q =>
              rw [hbl] at HBn Heq
              clear hbl
              gi_wp2
              refine ⟨trivial, rfl, ?_⟩
              refine HBn.out.mono ?_
              rintro e w5 ⟨rfl, hb5⟩
              unfold blanksR stopE
              gi_wp2
              refine ⟨rfl, .inr ⟨_, pre ++ [⟨kd, tx, k⟩], M', rfl, ⟨q, 162, Heq.out.symm, rfl⟩, ?_⟩⟩
              exact HJ.out _ _ _ _ hJ4 (Chg.of_fresh hb5)
            | ok j2 =>
              have hj2 := blanksE_le (by omega) hbl
              rw [hbl] at HBn Heq
              clear hbl
              gi_wp2
              refine ⟨trivial, rfl, ?_⟩
              refine HBn.out.mono ?_
              rintro e w5 ⟨rfl, hb5⟩
              unfold blanksR
              gi_wp2
              go_roundw
              case rel =>
                refine ⟨j2, pre ++ [⟨kd, tx, k⟩], M', rfl, hj2.2, by simp; omega, Heq, HJ.out _ _ _ _ hJ4 (Chg.of_fresh hb5), ?_, by have := hb5.size; omega, ?_, ?_, ?_, Hk4.out.below hb5 (by omega)⟩
                · intro b hb
                  rcases hM4 b hb with h | h
                  · exact hMs b h
                  · exact ⟨by omega, by omega, by omega⟩
                · exact (hb5.cell (p := ⟨bb, 0, none⟩) (by show bb < _; omega)).trans hbb4
                · exact (hb5.cell (p := ⟨bx, 0, none⟩) (by show bx < _; omega)).trans hm4
                · exact (hb5.cell (p := ⟨bx, 1, none⟩) (by show bx < _; omega)).trans hx4
              case measure => simp [intOf]; omega
          · gi_wp2
            refine bodyPost_ret (results_none rfl _ _ _) rfl ?_
            exact .inl ⟨_, rfl, .inr ⟨_, M', trivial, hJ4⟩⟩
      · have hltz : ¬ (k : Int) < (s.size : Int) := by omega
        have Heq := Lib.hid ((scanFrom_end p s k pre (by omega)).symm.trans HR.out)
        gi_wp2
        go_end0
        exact .inl ⟨_, rfl, .inl ⟨pre, M, Heq.out.symm, hJs⟩⟩
end Go.Proofs.Ytmkfeanggmjhmaa.S
