/- Walks: pairs of signs and symbols; the two ways of a pair. -/
import Derived.Test.YtmkfeanggmjhmaaS5
import Derived.Test.YtmkfeanggmjhmaaX2
import Derived.Laws.Tables
import Derived.Laws.Rows
import Derived.Deep.WholeRow
namespace Go.Proofs.Ytmkfeanggmjhmaa.X
open Go Go.RowKit Go.Proofs.YtmkfeanggmjhmaaW.PrintWords Go.Proofs.YtmkfeanggmjhmaaW.PrintLast Go.Proofs.YtmkfeanggmjhmaaW.PrintMore
open Go.Proofs.Ytmkfeanggmjhmaa.M Go.Proofs.Ytmkfeanggmjhmaa.K
set_option linter.unusedSimpArgs false
set_option linter.unusedVariables false

theorem way0_calls (a b : ByteArray) (w : World) :
    Calls Try.prog 28 #[.agg #[.string a, .string b]] w fun r w' => r = .returned (.tuple #[.string a, .string b]) ∧ Below w.heap.size w w' := by
  go_enter Try.func28, Try.ntmps28
  go_wp2
  go_region
  all_goals
    go_wp2
    go_ret2
    exact ⟨rfl, below_drewN ((Below.refl _ w).alloc (Nat.le_refl _) _) 1⟩
theorem way1_calls (a b : ByteArray) (w : World) :
    Calls Try.prog 30 #[.agg #[.string a, .string b]] w fun r w' => r = .returned (.tuple #[.string b, .string a]) ∧ Below w.heap.size w w' := by
  go_enter Try.func30, Try.ntmps30
  go_wp2
  go_region
  all_goals
    go_wp2
    go_ret2
    exact ⟨rfl, below_drewN ((Below.refl _ w).alloc (Nat.le_refl _) _) 1⟩
theorem fill_two (place : Nat → Option (Nat × Nat)) (l : List Value) (i off : Nat) (a b : Value) (rest : List (Nat × Value)) (hp : place i = some (off, 2)) (hs : off + 2 ≤ l.length) :
    Instr.fill place l.toArray ((i, .agg #[a, b]) :: rest) = Instr.fill place ((l.set off a).set (off + 1) b).toArray rest := by
  rw [Instr.fill, hp]
  have h1 : (Value.agg #[a, b]).cells = #[a, b] := rfl
  simp only [h1]
  rw [if_neg (by simp; omega)]
  simp
theorem fill_pairs (z : Value) (c0 c1 c2 c3 c4 c5 c6 c7 c8 c9 c10 c11 c12 c13 c14 c15 c16 c17 c18 c19 : ByteArray) :
    Instr.fill (fun i => some (i * 2, 2)) #[z, z, z, z, z, z, z, z, z, z, z, z, z, z, z, z, z, z, z, z] [(0, .agg #[.string c0, .string c1]), (1, .agg #[.string c2, .string c3]), (2, .agg #[.string c4, .string c5]), (3, .agg #[.string c6, .string c7]), (4, .agg #[.string c8, .string c9]), (5, .agg #[.string c10, .string c11]), (6, .agg #[.string c12, .string c13]), (7, .agg #[.string c14, .string c15]), (8, .agg #[.string c16, .string c17]), (9, .agg #[.string c18, .string c19])] = some #[.string c0, .string c1, .string c2, .string c3, .string c4, .string c5, .string c6, .string c7, .string c8, .string c9, .string c10, .string c11, .string c12, .string c13, .string c14, .string c15, .string c16, .string c17, .string c18, .string c19] := by
  show Instr.fill _ (List.toArray [z, z, z, z, z, z, z, z, z, z, z, z, z, z, z, z, z, z, z, z]) _ = _
  rw [fill_two _ _ 0 0 _ _ _ rfl (by simp)]
  simp only [List.set_cons_zero, List.set_cons_succ]
  rw [fill_two _ _ 1 2 _ _ _ rfl (by simp)]
  simp only [List.set_cons_zero, List.set_cons_succ]
  rw [fill_two _ _ 2 4 _ _ _ rfl (by simp)]
  simp only [List.set_cons_zero, List.set_cons_succ]
  rw [fill_two _ _ 3 6 _ _ _ rfl (by simp)]
  simp only [List.set_cons_zero, List.set_cons_succ]
  rw [fill_two _ _ 4 8 _ _ _ rfl (by simp)]
  simp only [List.set_cons_zero, List.set_cons_succ]
  rw [fill_two _ _ 5 10 _ _ _ rfl (by simp)]
  simp only [List.set_cons_zero, List.set_cons_succ]
  rw [fill_two _ _ 6 12 _ _ _ rfl (by simp)]
  simp only [List.set_cons_zero, List.set_cons_succ]
  rw [fill_two _ _ 7 14 _ _ _ rfl (by simp)]
  simp only [List.set_cons_zero, List.set_cons_succ]
  rw [fill_two _ _ 8 16 _ _ _ rfl (by simp)]
  simp only [List.set_cons_zero, List.set_cons_succ]
  rw [fill_two _ _ 9 18 _ _ _ rfl (by simp)]
  simp only [List.set_cons_zero, List.set_cons_succ]
  rfl
theorem build_pairs (W : World) (c0 c1 c2 c3 c4 c5 c6 c7 c8 c9 c10 c11 c12 c13 c14 c15 c16 c17 c18 c19 : ByteArray) :
    (Instr.build 79 #[(0, .agg #[.string c0, .string c1]), (1, .agg #[.string c2, .string c3]), (2, .agg #[.string c4, .string c5]), (3, .agg #[.string c6, .string c7]), (4, .agg #[.string c8, .string c9]), (5, .agg #[.string c10, .string c11]), (6, .agg #[.string c12, .string c13]), (7, .agg #[.string c14, .string c15]), (8, .agg #[.string c16, .string c17]), (9, .agg #[.string c18, .string c19])]).run Try.prog W = .ok (.agg #[.string c0, .string c1, .string c2, .string c3, .string c4, .string c5, .string c6, .string c7, .string c8, .string c9, .string c10, .string c11, .string c12, .string c13, .string c14, .string c15, .string c16, .string c17, .string c18, .string c19]) W := by
  have hf := fill_pairs (.string ⟨#[]⟩) c0 c1 c2 c3 c4 c5 c6 c7 c8 c9 c10 c11 c12 c13 c14 c15 c16 c17 c18 c19
  unfold Instr.build
  have hu : ∀ W, (underlying 79).run Try.prog W = .ok (.array 10 55) W := fun W => by simp [underlying, Try.underlying79, go_sem]
  simp only [Sem.run_bind, Try.zeroValue79, Try.sizeOf55, hu, Result.andThen, Value.cells]
  rw [hf]
  rfl
def pairsV : Value := .agg #[.string (⟨#[61, 61, 62]⟩ : ByteArray), .string (⟨#[92, 60, 76, 111, 110, 103, 114, 105, 103, 104, 116, 97, 114, 114, 111, 119, 62]⟩ : ByteArray), .string (⟨#[45, 45, 62]⟩ : ByteArray), .string (⟨#[92, 60, 108, 111, 110, 103, 114, 105, 103, 104, 116, 97, 114, 114, 111, 119, 62]⟩ : ByteArray), .string (⟨#[61, 61]⟩ : ByteArray), .string (⟨#[92, 60, 101, 113, 117, 105, 118, 62]⟩ : ByteArray), .string (⟨#[61, 62]⟩ : ByteArray), .string (⟨#[92, 60, 82, 105, 103, 104, 116, 97, 114, 114, 111, 119, 62]⟩ : ByteArray), .string (⟨#[33, 33]⟩ : ByteArray), .string (⟨#[92, 60, 65, 110, 100, 62]⟩ : ByteArray), .string (⟨#[37]⟩ : ByteArray), .string (⟨#[92, 60, 108, 97, 109, 98, 100, 97, 62]⟩ : ByteArray), .string (⟨#[38]⟩ : ByteArray), .string (⟨#[92, 60, 97, 110, 100, 62]⟩ : ByteArray), .string (⟨#[124]⟩ : ByteArray), .string (⟨#[92, 60, 111, 114, 62]⟩ : ByteArray), .string (⟨#[126]⟩ : ByteArray), .string (⟨#[92, 60, 110, 111, 116, 62]⟩ : ByteArray), .string (⟨#[33]⟩ : ByteArray), .string (⟨#[92, 60, 102, 111, 114, 97, 108, 108, 62]⟩ : ByteArray)]
set_option maxRecDepth 100000 in
set_option maxHeartbeats 1000000 in
theorem pairs_calls (w : World) :
    Calls Try.prog 44 #[] w fun r w' => r = .returned pairsV ∧ Below w.heap.size w w' := by
  unfold pairsV
  have hb := build_pairs
  go_enter Try.func44, Try.ntmps44
  generalize (⟨#[61, 61, 62]⟩ : ByteArray) = c0
  generalize (⟨#[92, 60, 76, 111, 110, 103, 114, 105, 103, 104, 116, 97, 114, 114, 111, 119, 62]⟩ : ByteArray) = c1
  generalize (⟨#[45, 45, 62]⟩ : ByteArray) = c2
  generalize (⟨#[92, 60, 108, 111, 110, 103, 114, 105, 103, 104, 116, 97, 114, 114, 111, 119, 62]⟩ : ByteArray) = c3
  generalize (⟨#[61, 61]⟩ : ByteArray) = c4
  generalize (⟨#[92, 60, 101, 113, 117, 105, 118, 62]⟩ : ByteArray) = c5
  generalize (⟨#[61, 62]⟩ : ByteArray) = c6
  generalize (⟨#[92, 60, 82, 105, 103, 104, 116, 97, 114, 114, 111, 119, 62]⟩ : ByteArray) = c7
  generalize (⟨#[33, 33]⟩ : ByteArray) = c8
  generalize (⟨#[92, 60, 65, 110, 100, 62]⟩ : ByteArray) = c9
  generalize (⟨#[37]⟩ : ByteArray) = c10
  generalize (⟨#[92, 60, 108, 97, 109, 98, 100, 97, 62]⟩ : ByteArray) = c11
  generalize (⟨#[38]⟩ : ByteArray) = c12
  generalize (⟨#[92, 60, 97, 110, 100, 62]⟩ : ByteArray) = c13
  generalize (⟨#[124]⟩ : ByteArray) = c14
  generalize (⟨#[92, 60, 111, 114, 62]⟩ : ByteArray) = c15
  generalize (⟨#[126]⟩ : ByteArray) = c16
  generalize (⟨#[92, 60, 110, 111, 116, 62]⟩ : ByteArray) = c17
  generalize (⟨#[33]⟩ : ByteArray) = c18
  generalize (⟨#[92, 60, 102, 111, 114, 97, 108, 108, 62]⟩ : ByteArray) = c19
  have h1 : (#[Value.string c0, Value.string c1, Value.string c2, Value.string c3, Value.string c4, Value.string c5, Value.string c6, Value.string c7, Value.string c8, Value.string c9, Value.string c10, Value.string c11, Value.string c12, Value.string c13, Value.string c14, Value.string c15, Value.string c16, Value.string c17, Value.string c18, Value.string c19] : Array Value).all (fun x => x.oneCell') = true := by simp [Value.oneCell']
  have H1 := Lib.hid h1
  clear h1
  go_wp2_with ((refine wpList_store_row rfl 79 _ _ rfl w.heap.size _ rfl rfl 79 _ (World.alloc_heap_new w _) (by kernel_rfl) rfl H1.out ?_; rw [World.setRow_alloc_new]))
  (try simp only [Exit.inBlock, Exit.then])
  refine bodyPost_ret (results_cell_row rfl _ _ w.heap.size 79 _ (0, 0) (.array 10 55) rfl (World.alloc_heap_new w _) Try.underlying79 rfl (by kernel_rfl)) rfl ⟨rfl, (Below.refl _ w).alloc (Nat.le_refl _) _⟩
end Go.Proofs.Ytmkfeanggmjhmaa.X
