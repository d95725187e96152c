/- Walk: all tokens of a text, with the recovery of what stops the scanner. -/
import Derived.Test.YtmkfeanggmjhmaaS8
import Derived.Maps.AppendAt
import Derived.RecoverIn
import Derived.BigRegionIn
import Derived.BigFrameIn
namespace Go.Proofs.Ytmkfeanggmjhmaa.S
open Go Go.RowKit Go.Shelf Go.Proofs.YtmkfeanggmjhmaaW.PrintWords Go.Proofs.YtmkfeanggmjhmaaW.PrintLast Go.Proofs.YtmkfeanggmjhmaaW.PrintMore
open Go.Proofs.Ytmkfeanggmjhmaa.M Go.Proofs.Ytmkfeanggmjhmaa.K
set_option linter.unusedSimpArgs false
set_option linter.unusedVariables false
attribute [local go_sem] Oper.semAt_some

theorem tokens_calls (bx : Nat) (w : World) :
    Calls Try.prog 38 #[.pointer (some ⟨bx, 0, none⟩)] w fun r w' =>
      r = .returned (.func (.func 55) #[] #[.pointer (some ⟨w.heap.size, 0, none⟩)]) ∧ w' = w.alloc (.cells #[.pointer (some ⟨bx, 0, none⟩)] 66) := by
  have hmf : ∀ (fn : Fn) (first cap : Array Value) (w : World), (Instr.makeFunc fn first cap).run Try.prog w = .ok (.func fn first cap) w := fun _ _ _ _ => rfl
  go_enter Try.func38, Try.ntmps38
  go_wp2
  go_ret
  exact ⟨rfl, rfl⟩

def tokCells (x : Tok) : List Value := [.int .i64 x.kind, .string x.text, .int .i64 x.at_]

theorem catch_idle (pa pb pc : Addr) (w : World) :
    CallsDIn Fence.wide 0 Try.prog 37 #[.pointer (some pa), .pointer (some pb), .pointer (some pc)] .returning w fun e u' w' => e = .returned (.tuple #[]) ∧ u' = .returning ∧ w' = w := by
  refine callsDIn_of_wpSIn Try.func37 rfl trivial fun c₀ cs hu => ?_
  apply wpSIn_seq
  apply wpSIn_region
  simp [wpOpsSIn, go_sem, recoverD, hu, Try.ntmps37, Exit.thenS, Fence.wide]
  apply wpSIn_seq
  apply wpSIn_region
  simp [wpOpsSIn, go_sem, Exit.thenS, Fence.wide]
  refine wpSIn_cond (t := false) (by simp [Act.eval, Array.replicate]) ?_
  simp only [Bool.false_eq_true, if_false]
  refine wpSIn_of_wpIn rfl (wpIn_skip ?_)
  cases c₀
  simp_all [bodyPostS, results, Try.results37]

/-- what the recovery leaves -/
def Caught (b : Nat) (q : Nat) (c : Int) (chain : List PanicEntry) (w : World) (e : Ending) (u : FrameMode) (w' : World) : Prop :=
  e = .returned (.tuple #[]) ∧ u = .panicking chain ∧ Chg (fun k => k = b ∨ k = b + 1 ∨ k = b + 2) w w' ∧
    w'.cell? ⟨b, 0, none⟩ = some (.slice none 0 0) ∧ w'.cell? ⟨b + 1, 0, none⟩ = some (.int .i64 q) ∧ w'.cell? ⟨b + 2, 0, none⟩ = some (.int .i64 c)

set_option maxHeartbeats 1000000 in
theorem catch_panicking (b : Nat) (va vb vc : Value) (q : Nat) (c : Int) (older : List PanicEntry) (w : World)
    (ha : w.cell? ⟨b, 0, none⟩ = some va) (hb : w.cell? ⟨b + 1, 0, none⟩ = some vb) (hc : w.cell? ⟨b + 2, 0, none⟩ = some vc)
    (hfa : w.frozen? ⟨b, 0, none⟩ = false) (hfb : w.frozen? ⟨b + 1, 0, none⟩ = false) (hfc : w.frozen? ⟨b + 2, 0, none⟩ = false) :
    CallsDIn Fence.wide 0 Try.prog 37 #[.pointer (some ⟨b, 0, none⟩), .pointer (some ⟨b + 1, 0, none⟩), .pointer (some ⟨b + 2, 0, none⟩)]
      (.panicking ({ v := stopV q c, recovered := false } :: older)) w (Caught b q c ({ v := stopV q c, recovered := true } :: older) w) := by
  refine callsDIn_of_wpSIn Try.func37 rfl trivial fun c₀ cs hu => ?_
  unfold stopV at hu ⊢
  simp only [Try.ntmps37, List.size_toArray, List.length_cons, List.length_nil, Nat.reduceAdd, Nat.reduceSub, Array.replicate_succ, Array.replicate_zero, List.push_toArray, List.append_toArray, List.nil_append, List.cons_append]
  apply wpSIn_seq
  apply wpSIn_region
  simp [wpOpsSIn, go_sem, recoverD, hu, Try.ntmps37, Exit.thenS, Fence.wide]
  apply wpSIn_seq
  apply wpSIn_region
  simp [wpOpsSIn, go_sem, Exit.thenS, Fence.wide]
  refine wpSIn_cond (t := true) (by simp [Act.eval]) ?_
  simp only [if_true]
  change Code.wpSIn Fence.wide 0 Try.prog _ _ _ _ _
  refine wpSIn_of_wpIn rfl (wpIn_wide.2 ?_)
  refine wp_mono (Q := fun e a' w' => e = .normal ∧ a'.defers = [] ∧ (Chg (fun k => k = b ∨ k = b + 1 ∨ k = b + 2) w w' ∧
    w'.cell? ⟨b, 0, none⟩ = some (.slice none 0 0) ∧ w'.cell? ⟨b + 1, 0, none⟩ = some (.int .i64 q) ∧ w'.cell? ⟨b + 2, 0, none⟩ = some (.int .i64 c))) ?_ ?_
  · have hta : ∀ v W, (Instr.typeAssert (.iface 63 v) 20 63 false).run Try.prog W = .ok v W := fun v W => by
      simp [Instr.typeAssert, Try.underlying63, Sem.run, go_sem]
    have hf0 : ∀ W, (Instr.field 63 (.agg #[.int .i64 q, .int .i64 c]) 0).run Try.prog W = .ok (.int .i64 q) W := fun W => by
      simp [Instr.field, underlying, part, asAgg, go_sem, Try.underlying63, Try.underlying3]
    have hf1 : ∀ W, (Instr.field 63 (.agg #[.int .i64 q, .int .i64 c]) 1).run Try.prog W = .ok (.int .i64 c) W := fun W => by
      simp [Instr.field, underlying, part, asAgg, go_sem, Try.underlying63, Try.underlying25]
    go_region
    refine ⟨rfl, rfl, ?_, ?_, ?_, ?_⟩
    · exact (((Chg.setCell (p := ⟨b, 0, none⟩) (.inl rfl) _).trans (Chg.setCell (p := ⟨b + 1, 0, none⟩) (.inr (.inl rfl)) _)).trans (Chg.setCell (p := ⟨b + 2, 0, none⟩) (.inr (.inr rfl)) _)).trans (Chg.drew _ _)
    all_goals simp [go_sem, ha, hb, hc]
  · rintro e a' w' ⟨rfl, hd, hC⟩
    cases c₀
    simp_all [bodyPostS, results, Try.results37, Caught]
end Go.Proofs.Ytmkfeanggmjhmaa.S
