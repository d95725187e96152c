/- Ground types that lie in memory, read, by their depth.  No program's function is in sight. -/
import Derived.Test.YthfomoigaoffgaaGreatG
import Derived.Test.YthfomoigaoffgaaGreatOb
import Derived.Test.YthfomoigaoffgaaGreatNd45
import Derived.WalkMore
namespace Go.Proofs.YthfomoigaoffgaaGreat.Gd
open Go Go.RowKit Go.Proofs.YthfomoigaoffgaaGreat.K Go.Proofs.YthfomoigaoffgaaGreat.G Go.Proofs.YthfomoigaoffgaaGreat.O
set_option linter.unusedSimpArgs false
set_option linter.unusedVariables false

/-- a ground type of at most a depth -/
def rdTr : Nat → Rd Tr
  | 0 => { sz := 5, K := fun _ _ _ _ => False, len := fun h => h.elim, one := fun h => h.elim, bound := fun h => h.elim, mono := fun _ h => h.elim, move := fun _ h => h.elim }
  | d + 1 =>
    { sz := 5
      K := fun S w x cs => ∃ nm args A c, x = Tr.con nm args ∧ cs = [.int .i64 1, .string nm, .int .i64 0, .slice none 0 0, .slice A args.length c] ∧ args.length ≤ c ∧ C (rdTr d) S w A args
      len := fun h => by obtain ⟨nm, args, A, c, _, rfl, _⟩ := h; rfl
      one := fun h u hu => by
        obtain ⟨nm, args, A, c, _, rfl, _⟩ := h
        simp only [List.mem_cons, List.not_mem_nil, or_false] at hu
        rcases hu with rfl | rfl | rfl | rfl | rfl <;> rfl
      bound := fun h => by obtain ⟨nm, args, A, c, e1, e2, l, g⟩ := h; exact ⟨nm, args, A, c, e1, e2, l, g.bound⟩
      mono := fun hm h => by obtain ⟨nm, args, A, c, e1, e2, l, g⟩ := h; exact ⟨nm, args, A, c, e1, e2, l, g.mono hm⟩
      move := fun hm h => by obtain ⟨nm, args, A, c, e1, e2, l, g⟩ := h; exact ⟨nm, args, A, c, e1, e2, l, g.move hm⟩ }
theorem rdTr_sz (d : Nat) : (rdTr d).sz = 5 := by cases d <;> rfl
end Go.Proofs.YthfomoigaoffgaaGreat.Gd
namespace Go.Proofs.YthfomoigaoffgaaGreat.Gd
open Go Go.RowKit Go.Shelf Go.Proofs.YthfomoigaoffgaaGreat.K Go.Proofs.YthfomoigaoffgaaGreat.G Go.Proofs.YthfomoigaoffgaaGreat.O Go.Proofs.YthfomoigaoffgaaGreat.So
set_option linter.unusedSimpArgs false
set_option linter.unusedVariables false

theorem infoType : (Tryz.prog.info? 42).map (fun i => (i.zero, i.size, i.bytes)) = some (some (.agg #[.int .i64 0, .string ByteArray.empty, .int .i64 0, .slice none 0 0, .slice none 0 0]), 5, 80) := by kernel_rfl
/-- one ground type, appended to an own row of them -/
theorem append_tr {e base : Nat} {S : Nat → Prop} {w : World} {v : Value} {xs : List Tr} {x : Tr} {cs : List Value} {b : Nat} {t : TypeId} (h : Mine (rdTr e) base S w v xs) (hb : w.heap[b]? = some (.cells cs.toArray t (0, 0))) (hK : (rdTr e).K (fun k => S k ∧ v.ownBlock ≠ some k) w x cs) (hl : xs.length ≤ 1000000) (hbase : base ≤ w.heap.size) :
    ∃ v' w', (Builtin.append_ #[40, 40] 40 #[v, .slice (some ⟨b, 0, none⟩) 1 1]).run Tryz.prog w = .ok v' w' ∧ Mine (rdTr e) base S w' v' (xs ++ [x]) ∧ w.grownBy w' v.ownBlock ∧ ∀ k, v'.ownBlock = some k → v.ownBlock = some k ∨ w.heap.size ≤ k := by
  obtain ⟨i0, hi0, hz0, hz1, hz2⟩ := info_parts infoType
  have hcs : Cells (rdTr e) (fun k => S k ∧ v.ownBlock ≠ some k) w b 0 [x] := fun j y hj => by
    cases j with
    | succ j => simp at hj
    | zero =>
      simp only [List.getElem?_cons_zero, Option.some.injEq] at hj
      subst hj
      refine ⟨cs, hK, fun i u hu => ?_⟩
      have e1 : (0 + 0 * (rdTr e).sz + i) = i := by omega
      rw [e1]
      simp [World.cell?, hb, hu]
  obtain ⟨v', w', hrun, ho, hg, hbk⟩ := h.append (P := Tryz.prog) (t := 40) (ty := 40) (bytes := 80) (c2 := 1) Tryz.underlying40 hi0 hz0 (by rw [hz1, rdTr_sz]) hz2 (by rw [rdTr_sz]; rfl) (by rw [rdTr_sz]; decide) (m := 1) (ys := [x]) rfl (by simp) hcs (by simp [maxLen]; omega) (by simp; omega) hbase
  refine ⟨v', w', hrun, ho, hg, fun k e => ?_⟩
  rcases hbk with h1 | h1
  · rw [h1] at e; exact .inl e
  · rw [h1] at e; cases e; exact .inr (Nat.le_refl _)
/-- what ground returns, at a depth: whether there is a type, and where it is one, its cells -/
def GrEnd (d : Nat) (w : World) (R : Option Tr) (e : Ending) (w' : World) : Prop :=
  (match R with
    | none => e = .returned (.tuple #[.agg #[.int .i64 0, .string ⟨#[]⟩, .int .i64 0, .slice none 0 0, .slice none 0 0], .bool false])
    | some x => ∃ nm n A c, e = .returned (.tuple #[.agg #[.int .i64 1, .string nm, .int .i64 0, .slice none 0 0, .slice A n c], .bool true]) ∧ (rdTr d).K (fun k => w.heap.size ≤ k) w' x [.int .i64 1, .string nm, .int .i64 0, .slice none 0 0, .slice A n c]) ∧ Below w.heap.size w w'
end Go.Proofs.YthfomoigaoffgaaGreat.Gd
namespace Go.Proofs.YthfomoigaoffgaaGreat.Gd
open Go Go.RowKit Go.Shelf Go.Proofs.YthfomoigaoffgaaGreat.K Go.Proofs.YthfomoigaoffgaaGreat.G Go.Proofs.YthfomoigaoffgaaGreat.O Go.Proofs.YthfomoigaoffgaaGreat.So
set_option linter.unusedSimpArgs false
set_option linter.unusedVariables false

/-- what ground returns lies in a block of its own -/
theorem gr_results {tmps : Array Value} {W : World} {g : Nat} {b : Bool} {v0 v1 v2 v3 v4 : Value} (hs : tmps[6]?.getD undef = .pointer (some ⟨g, 0, none⟩)) (hb : tmps[7]?.getD undef = .bool b) (hc : W.heap[g]? = some (.cells #[v0, v1, v2, v3, v4] 42 (0, 0))) :
    (results Tryz.f28 tmps).run Tryz.prog W = .ok (.tuple #[.agg #[v0, v1, v2, v3, v4], .bool b]) W := by
  have hag := Tryz.isAgg42
  have hsz := Tryz.sizeOf42
  have c0 : W.cell? ⟨g, 0, none⟩ = some v0 := by simp [World.cell?, hc]
  have c1 : W.cell? ⟨g, 1, none⟩ = some v1 := by simp [World.cell?, hc]
  have c2 : W.cell? ⟨g, 2, none⟩ = some v2 := by simp [World.cell?, hc]
  have c3 : W.cell? ⟨g, 3, none⟩ = some v3 := by simp [World.cell?, hc]
  have c4 : W.cell? ⟨g, 4, none⟩ = some v4 := by simp [World.cell?, hc]
  simp [results, Tryz.results28, go_sem, hs, hb, hag, hsz, c0, c1, c2, c3, c4]
theorem ground0_calls (S Ss : Nat → Prop) (r : Raw) (T : Thy) (A : Option Addr) (c : Nat) (s : List ByteArray) (w : World) :
    Calls Tryz.prog 28 #[thyV r T, .slice A s.length c, .int .i64 0] w (GrEnd 0 w (groundB T.cls T.tys T.ars 0 s)) := by
  have hag := Tryz.isAgg42
  have hsz := Tryz.sizeOf42
  unfold thyV thyC
  go_enter Tryz.func28, Tryz.ntmps28
  go_wp2
  go_step3
  go_wp2
  rw [Exit.noGoto_ret]
  have hc : ((w.alloc (.cells (thyC r T) 29)).alloc (.cells #[.int .i64 0, .string ByteArray.empty, .int .i64 0, .slice none 0 0, .slice none 0 0] 42)).heap[w.heap.size + 1]? = some (.cells #[.int .i64 0, .string ByteArray.empty, .int .i64 0, .slice none 0 0, .slice none 0 0] 42 (0, 0)) := by
    have := World.alloc_heap_new (w.alloc (.cells (thyC r T) 29)) (.cells #[.int .i64 0, .string ByteArray.empty, .int .i64 0, .slice none 0 0, .slice none 0 0] 42)
    rwa [World.size_alloc] at this
  refine bodyPost_ret (gr_results rfl rfl hc) rfl ?_
  exact ⟨rfl, ((Below.refl _ _).alloc (Nat.le_refl _) _).alloc (by simp) _⟩
end Go.Proofs.YthfomoigaoffgaaGreat.Gd
