/- General words for walks over this program's code: what a stretch of a run may turn ('Chg'); a range over a function whose iterator may keep state, and may panic.  It names no program. -/
import Derived.RangeFuncNested
import Derived.RangeFuncBound
import Derived.RangeFuncCalls
import Derived.RangeFuncLeaves
import Derived.Shelf.Abstract
import Derived.WalkKit
import Derived.OwnWalkIn
import Derived.TacticsInMore
import Derived.LoopNIn
import Derived.LoopIn
import Derived.Lib.Hide
import Derived.Deep.Draws
namespace Go.Proofs.YthfomoigaoffgaaGreat.K
set_option linter.unusedSimpArgs false
set_option linter.unusedVariables false
open Go Go.RowKit

/-- From A to B no block that lay has turned but those of T. -/
structure Chg (T : Nat → Prop) (A B : World) : Prop where
  os : B.os = A.os
  tape : B.tape = A.tape
  output : B.output = A.output
  size : A.heap.size ≤ B.heap.size
  block : ∀ k, k < A.heap.size → ¬ T k → B.heap[k]? = A.heap[k]?

theorem Chg.refl (T : Nat → Prop) (A : World) : Chg T A A := ⟨rfl, rfl, rfl, Nat.le_refl _, fun _ _ _ => rfl⟩
theorem Chg.trans {T : Nat → Prop} {A B C : World} (h : Chg T A B) (k : Chg T B C) : Chg T A C :=
  ⟨k.os.trans h.os, k.tape.trans h.tape, k.output.trans h.output, Nat.le_trans h.size k.size, fun i hi ht => (k.block i (Nat.lt_of_lt_of_le hi h.size) ht).trans (h.block i hi ht)⟩
/-- What is turned by the second stretch may be new since the first. -/
theorem Chg.trans' {T T' : Nat → Prop} {A B C : World} (h : Chg T A B) (k : Chg T' B C) (ht : ∀ i, T' i → T i ∨ A.heap.size ≤ i) : Chg T A C :=
  ⟨k.os.trans h.os, k.tape.trans h.tape, k.output.trans h.output, Nat.le_trans h.size k.size, fun i hi hn => (k.block i (Nat.lt_of_lt_of_le hi h.size) (fun e => by
    rcases ht i e with h1 | h1
    · exact hn h1
    · omega)).trans (h.block i hi hn)⟩
theorem Chg.mono {T T' : Nat → Prop} {A B : World} (h : Chg T A B) (ht : ∀ k, T k → T' k) : Chg T' A B :=
  ⟨h.os, h.tape, h.output, h.size, fun k hk hn => h.block k hk (fun e => hn (ht k e))⟩
theorem Chg.alloc (T : Nat → Prop) (A : World) (o : Obj) : Chg T A (A.alloc o) := ⟨rfl, rfl, rfl, by simp, fun k hk _ => Below.heap_alloc A o k hk⟩
theorem Chg.drew (T : Nat → Prop) (A : World) : Chg T A A.drew := ⟨rfl, rfl, rfl, Nat.le_refl _, fun _ _ _ => rfl⟩
theorem Chg.drewN (T : Nat → Prop) (A : World) (n : Nat) : Chg T A (A.drewN n) := ⟨rfl, rfl, rfl, Nat.le_refl _, fun _ _ _ => rfl⟩
theorem Chg.setCell {T : Nat → Prop} {A : World} {p : Addr} (hp : T p.block) (u : Value) : Chg T A (A.setCell p u) :=
  ⟨rfl, rfl, rfl, by simp [World.setCell], fun k _ hn => Below.heap_setCell A p u k (fun e => hn (by rw [e]; exact hp))⟩
theorem Chg.putObj {T : Nat → Prop} {A : World} {l : Nat} (hp : T l) (o : Obj) : Chg T A (A.putObj l o) :=
  ⟨rfl, rfl, rfl, by simp, fun k _ hn => World.putObj_heap_other (fun e => hn (by rw [e]; exact hp))⟩
theorem Chg.grown {T : Nat → Prop} {A B : World} {row : Option Nat} (hg : A.grownBy B row) (hr : ∀ k, row = some k → T k ∨ A.heap.size ≤ k) : Chg T A B :=
  ⟨hg.os, hg.tape, hg.output, hg.size, fun k hk hn => hg.block k hk (fun e => by
    rcases hr k e.symm with h1 | h1
    · exact hn h1
    · omega)⟩
theorem Chg.of_below {A B : World} {n : Nat} (h : Below n A B) : Chg (fun k => n ≤ k) A B := ⟨h.os, h.tape, h.output, h.size, fun k _ hn => h.block k (by omega)⟩
/-- a call that makes memory and turns none -/
theorem Chg.of_fresh {T : Nat → Prop} {A B : World} (h : Below A.heap.size A B) : Chg T A B := ⟨h.os, h.tape, h.output, h.size, fun k hk _ => h.block k hk⟩
theorem Chg.below {T : Nat → Prop} {A B : World} {n : Nat} (h : Chg T A B) (hn : n ≤ A.heap.size) (ht : ∀ k, T k → n ≤ k) : Below n A B :=
  ⟨h.os, h.tape, h.output, h.size, fun k hk => h.block k (by omega) (fun e => by have := ht k e; omega)⟩
theorem Chg.cell {T : Nat → Prop} {A B : World} (h : Chg T A B) {p : Addr} {v : Value} (hv : A.cell? p = some v) (hn : ¬ T p.block) : B.cell? p = some v := by
  rw [← hv]; exact World.cell?_of_block (h.block _ (by
    unfold World.cell? at hv
    cases ho : A.heap[p.block]? with
    | none => simp [ho] at hv
    | some o => exact (Array.getElem?_eq_some_iff.1 ho).1) hn)
theorem below_drewN {n : Nat} {A B : World} (h : Below n A B) (k : Nat) : Below n A (B.drewN k) := ⟨h.os, h.tape, h.output, h.size, h.block⟩
theorem cell_old (w : World) (o : Obj) (b off : Nat) (h : b < w.heap.size) : (w.alloc o).cell? ⟨b, off, none⟩ = w.cell? ⟨b, off, none⟩ :=
  World.cell?_of_block (Below.heap_alloc w o b h)
theorem frozen_old (w : World) (o : Obj) (b off : Nat) (h : b < w.heap.size) : (w.alloc o).frozen? ⟨b, off, none⟩ = w.frozen? ⟨b, off, none⟩ :=
  World.frozen?_of_block (Below.heap_alloc w o b h)
theorem cell_at (w : World) (v : Value) (t : TypeId) (b : Nat) (h : b = w.heap.size) : (w.alloc (.cells #[v] t)).cell? ⟨b, 0, none⟩ = some v := by
  subst h
  have := World.alloc_heap_new w (.cells #[v] t)
  unfold World.cell?
  simp only [this]
  rfl
theorem cells_at (w : World) (c : Array Value) (t : TypeId) (b off : Nat) (h : b = w.heap.size) : (w.alloc (.cells c t)).cell? ⟨b, off, none⟩ = c[off]? := by
  subst h
  have := World.alloc_heap_new w (.cells c t)
  unfold World.cell?
  simp only [this]
  rfl
theorem frozen_at (w : World) (c : Array Value) (t : TypeId) (b off : Nat) (h : b = w.heap.size) : (w.alloc (.cells c t)).frozen? ⟨b, off, none⟩ = false := by
  subst h
  have := World.alloc_heap_new w (.cells c t)
  unfold World.frozen?
  simp only [this]
  simp
theorem lt_of_cell {A : World} {p : Addr} {v : Value} (hv : A.cell? p = some v) : p.block < A.heap.size := by
  unfold World.cell? at hv
  cases ho : A.heap[p.block]? with
  | none => simp [ho] at hv
  | some o => exact (Array.getElem?_eq_some_iff.1 ho).1
theorem Chg.obj {T : Nat → Prop} {A B : World} (h : Chg T A B) {k : Nat} {o : Obj} (hv : A.heap[k]? = some o) (hn : ¬ T k) : B.heap[k]? = some o :=
  (h.block k (Array.getElem?_eq_some_iff.1 hv).1 hn).trans hv

theorem setCell_self {w : World} {p : Addr} {v : Value} (h : w.cell? p = some v) : w.setCell p v = w := by
  have key : w.heap.modify p.block (fun
      | .cells c elem frozen => .cells (if p.spot.isSome then c else c.setIfInBounds p.off v) elem frozen
      | o => o) = w.heap := by
    apply Array.ext
    · simp
    · intro i h1 h2
      rw [Array.getElem_modify]
      split
      · rename_i e
        subst e
        unfold World.cell? at h
        rw [Array.getElem?_eq_getElem h2] at h
        generalize w.heap[p.block] = o at h ⊢
        cases o <;> try rfl
        rename_i c elem fz
        simp only at h ⊢
        split at h
        · cases h
        · rename_i hn
          simp only [if_neg hn]
          congr 1
          apply Array.ext
          · simp
          · intro j g1 g2
            rw [Array.getElem_setIfInBounds]
            split
            · rename_i e
              subst e
              rw [Array.getElem?_eq_getElem g2] at h
              exact (Option.some.inj h).symm
            · rfl
      · rfl
  have hk : (w.setCell p v).heap = w.heap := key
  have e : w.setCell p v = { w with heap := (w.setCell p v).heap } := rfl
  rw [e, hk]

/-- The contract of an iterator's value at a world W.  The round's side owns the blocks M (a set that grows by what is new); the iterator turns no block that lay ahead of its call, and none of M.
  S xs: all have come. Sp pre: stopped by a round. Sx pre chain: it has panicked. -/
def IterAt {α : Type} (P : Program) (gf : FuncId) (lb : Array Value) (encs : α → Array Value) (S Sp : List α → Prop) (Sx : List α → List PanicEntry → Prop) (N : Nat) (Safe : Nat → Prop) (W : World) : Prop :=
  ∀ (l : Nat) (M0 : Nat → Prop) (J Jx : List α → (Nat → Prop) → World → Prop),
    (∀ k, M0 k → Safe k) →
    (∀ pre M A B, J pre M A → Chg (fun k => W.heap.size ≤ k ∧ ¬ M k) A B → J pre M B) →
    (∀ pre M A B, Jx pre M A → Chg (fun k => W.heap.size ≤ k ∧ ¬ M k) A B → Jx pre M B) →
    (∀ pre M A, J pre M A → ∀ k, M k → k < A.heap.size) →
    (∀ pre M x A, J pre M A → pre.length < N → YieldAt Fence.wide 0 P l (encs x) A fun e B =>
      (e = .returned (.bool true) ∧ ∃ M', J (pre ++ [x]) M' B ∧ Chg M A B ∧ ∀ k, M' k → M k ∨ A.heap.size ≤ k) ∨
      (e = .returned (.bool false) ∧ ∃ M', Jx (pre ++ [x]) M' B ∧ Chg M A B ∧ ∀ k, M' k → M k ∨ A.heap.size ≤ k)) →
    J [] M0 W →
    CallsIn Fence.wide 0 P gf (#[.func (.yield l) #[] #[]] ++ lb) W fun e W' =>
      (∃ v, e = .returned v ∧ ((∃ xs M, S xs ∧ J xs M W') ∨ (∃ pre M, Sp pre ∧ Jx pre M W'))) ∨
      (∃ chain pre M, e = .panicked chain ∧ Sx pre chain ∧ J pre M W')

/-- How the body of a round may be left. -/
def rfPost {α : Type} (I : List α → (Nat → Prop) → World → Prop) (Ix : Code → List α → (Nat → Prop) → World → Prop) (xs : List α) (M : Nat → Prop) (sz : Nat) (A : World) : Exit → Act → World → Prop
  | .normal, _, B => ∃ M', I xs M' B ∧ Chg (fun k => M k ∨ sz ≤ k) A B ∧ ∀ k, M' k → M k ∨ sz ≤ k
  | .ret, _, B => ∃ M', Ix .ret xs M' B ∧ Chg (fun k => M k ∨ sz ≤ k) A B ∧ ∀ k, M' k → M k ∨ sz ≤ k
  | .exit id, _, B => ∃ M', Ix (.exit id) xs M' B ∧ Chg (fun k => M k ∨ sz ≤ k) A B ∧ ∀ k, M' k → M k ∨ sz ≤ k
  | .goto t, _, B => ∃ M', Ix (.goto t) xs M' B ∧ Chg (fun k => M k ∨ sz ≤ k) A B ∧ ∀ k, M' k → M k ∨ sz ≤ k
  | .panic _, _, _ => False
  | .outgrown, _, _ => False

theorem wide_any {n m : Nat} {P : Program} {f : FuncId} {args : Array Value} {w : World} {R : Ending → World → Prop} (h : CallsIn Fence.wide n P f args w R) : CallsIn Fence.wide m P f args w R :=
  callsIn_wide.2 (callsIn_wide.1 h)

theorem roundIn_any {n m : Nat} {P : Program} {l : Nat} {f : FuncId} {tmps : Array Value} {assign body : Code} {w : World} {R : Ending → World → Prop}
    (h : RoundIn Fence.wide n P l f tmps assign body w R) : RoundIn Fence.wide m P l f tmps assign body w R :=
  ⟨h.1, fun c cs _ => h.2 c cs (room_wide _)⟩

/-- The statement 'for .. := range g { .. }', of an activation that is no round's. L = w.heap.size + 1 is the loop's record, w.heap.size the block for the rounds' deferred calls. -/
theorem wp_rangeFunc {α : Type} {n : Nat} {P : Program} {g : Operand} {ps : Array Tmp} {assign body : Code} {Q : Exit → Act → World → Prop} {a : Act} {w : World}
    {gf : FuncId} {lb : Array Value} (hg : a.eval g = .func (.func gf) #[] lb) (eg : Enters P gf)
    {encs : α → Array Value} {S Sp : List α → Prop} {Sx : List α → List PanicEntry → Prop} {N : Nat} {Safe : Nat → Prop}
    (hseq : ∀ W1, Chg (fun _ => False) w W1 → W1.heap.size = w.heap.size + 2 → IterAt P gf lb encs S Sp Sx N Safe W1)
    (hL : Safe (w.heap.size + 1))
    (hps : ∀ x, (encs x).size = ps.size)
    (M0 : Nat → Prop) (hM0 : ∀ k, M0 k → Safe k ∧ k < w.heap.size)
    (I : List α → (Nat → Prop) → World → Prop) (Ix : Code → List α → (Nat → Prop) → World → Prop)
    (hI : ∀ pre M A B, I pre M A → Chg (fun k => w.heap.size ≤ k ∧ ¬ M k) A B → I pre M B)
    (hIx : ∀ c pre M A B, Ix c pre M A → Chg (fun k => w.heap.size ≤ k ∧ ¬ M k) A B → Ix c pre M B)
    (hIM : ∀ pre M A, I pre M A → ∀ k, M k → k < A.heap.size)
    (h0 : I [] M0 w) (a₁ : α → Act → World → Prop)
    (ha₁ : ∀ x a1 A B, a₁ x a1 A → Chg (fun k => k = w.heap.size + 1) A B → a₁ x a1 B)
    (hassign : ∀ (l : Nat) (x : α) (W : World), w.heap.size + 2 ≤ W.heap.size → assign.wpIn (Fence.wide.inRound l) 0 P (fun e a1 W' => e = .normal ∧ a₁ x a1 W' ∧ Chg (fun _ => False) W W')
      { tmps := (ps.zip (encs x)).foldl (fun t (p, v) => t.setIfInBounds p v) a.tmps, defers := [] } W)
    (hbody : ∀ (l : Nat) (pre : List α) (M : Nat → Prop) (x : α) (a1 : Act) (sz : Nat) (W : World), I pre M W → (∀ k, M k → k < sz) → pre.length < N → a₁ x a1 W → w.heap.size + 2 ≤ sz → sz ≤ W.heap.size →
      body.wpIn (Fence.wide.inRound l) 0 P (rfPost I Ix (pre ++ [x]) M sz W) a1 W)
    (hdone : ∀ (D : Nat) (xs : List α) (M : Nat → Prop) (W : World), D = w.heap.size → S xs → I xs M W → W.heap[D]? = some (.deferred (some [])) → Q .normal { a with defers := { target := .collected D, args := #[] } :: a.defers } W)
    (hstop : ∀ (D : Nat) (c : Code) (pre : List α) (M : Nat → Prop) (W : World), D = w.heap.size → Sp pre → Ix c pre M W → W.heap[D]? = some (.deferred (some [])) → c.wpIn Fence.wide n P Q { a with defers := { target := .collected D, args := #[] } :: a.defers } W)
    (hpanic : ∀ (D : Nat) (chain : List PanicEntry) (pre : List α) (M : Nat → Prop) (W : World), D = w.heap.size → Sx pre chain → I pre M W → W.heap[D]? = some (.deferred (some [])) → Q (.panic chain) { a with defers := { target := .collected D, args := #[] } :: a.defers } W) :
    (Code.rangeFunc g ps assign body).wpIn Fence.wide n P Q a w := by
  refine wpIn_rangeFunc ?_
  intro fn hfn
  obtain ⟨rec, hrec⟩ : ∃ rec : LoopState → Option Code → Loop, rec = fun st pe => { state := st, pending := pe, fn, tmps := a.tmps, params := ps, assign, body, defers := w.heap.size } := ⟨_, rfl⟩
  obtain ⟨W1, hW1⟩ : ∃ W1, (w.alloc (.deferred (some []))).alloc (.loop (rec .ready none)) = W1 := ⟨_, rfl⟩
  have hc1 : Chg (fun _ => False) w W1 := by rw [← hW1]; exact (Chg.alloc _ _ _).trans (Chg.alloc _ _ _)
  have hs1 : W1.heap.size = w.heap.size + 2 := by rw [← hW1]; simp
  have hL1 : W1.heap[w.heap.size + 1]? = some (.loop (rec .ready none)) := by
    rw [← hW1]; have := World.alloc_heap_new (w.alloc (.deferred (some []))) (.loop (rec .ready none)); rwa [World.size_alloc] at this
  have hK1 : W1.heap[w.heap.size]? = some (.deferred (some [])) := by
    rw [← hW1]; exact (Below.heap_alloc _ _ _ (by simp)).trans (World.alloc_heap_new w _)
  have hI1 : I [] M0 W1 := hI _ _ _ _ h0 (hc1.mono (fun _ h => h.elim))
  refine ⟨w.heap.size + 1, [{ target := .collected w.heap.size, args := #[] }], W1, { target := .fn (.func gf) lb, args := #[.func (.yield (w.heap.size + 1)) #[] #[]] }, W1, gf,
    #[.func (.yield (w.heap.size + 1)) #[] #[]] ++ lb, W1, ?_, ?_, ?_, ?_, fun h => by simp [Fence.wide] at h, ?_⟩
  · rw [← hW1, hrec]; exact run_enterLoop_outer _ _ _ _ _
  · simp only [resolve, hg]
    simp [go_sem]
  · intro f' _; trivial
  · have := eg; unfold Enters at this; simp [invoke, go_sem, this]
  · refine wide_any (n := 0) ?_
    refine (hseq W1 hc1 hs1 (w.heap.size + 1) (fun k => M0 k ∨ k = w.heap.size + 1)
      (fun pre M W => ∃ Mu : Nat → Prop, (∀ k, M k ↔ (Mu k ∨ k = w.heap.size + 1)) ∧ ¬ Mu (w.heap.size + 1) ∧ ¬ Mu w.heap.size ∧ I pre Mu W ∧ w.heap.size + 2 ≤ W.heap.size ∧ W.heap[w.heap.size + 1]? = some (.loop (rec .ready none)) ∧ W.heap[w.heap.size]? = some (.deferred (some [])))
      (fun pre M W => ∃ Mu : Nat → Prop, ∃ c, (∀ k, M k ↔ (Mu k ∨ k = w.heap.size + 1)) ∧ Ix c pre Mu W ∧ ¬ Mu (w.heap.size + 1) ∧ W.heap[w.heap.size + 1]? = some (.loop (rec .done (some c))) ∧ ¬ Mu w.heap.size ∧ W.heap[w.heap.size]? = some (.deferred (some [])))
      ?_ ?_ ?_ ?_ ?_ ?_).mono ?_
    · rintro k (h | rfl)
      · exact (hM0 k h).1
      · exact hL
    · rintro pre M A B ⟨Mu, hM, hl, hd, hi, hsz, h1, h2⟩ hc
      refine ⟨Mu, hM, hl, hd, hI _ _ _ _ hi (hc.mono fun k hk => ⟨by omega, fun e => hk.2 ((hM k).2 (.inl e))⟩), by have := hc.size; omega, hc.obj h1 (fun e => e.2 ((hM _).2 (.inr rfl))), hc.obj h2 (fun e => by omega)⟩
    · rintro pre M A B ⟨Mu, c, hM, hi, hl, h1, hd, h2⟩ hc
      refine ⟨Mu, c, hM, hIx _ _ _ _ _ hi (hc.mono fun k hk => ⟨by omega, fun e => hk.2 ((hM k).2 (.inl e))⟩), hl, hc.obj h1 (fun e => e.2 ((hM _).2 (.inr rfl))), hd, hc.obj h2 (fun e => by omega)⟩
    · rintro pre M A ⟨Mu, hM, hl, hd, hi, hsz, h1, h2⟩ k hk
      rcases (hM k).1 hk with h | rfl
      · exact hIM _ _ _ hi k h
      · exact (Array.getElem?_eq_some_iff.1 h1).1
    · rintro pre M x A ⟨Mu, hM, hl, hd, hi, hsz, h1, h2⟩ hlen
      have hlt : w.heap.size + 1 < A.heap.size := by omega
      have hy := run_yield (P := P) (args := encs x) h1 (by rw [hrec]; exact hps x)
      rw [hrec] at hy
      refine ⟨fn, _, assign, body, hy, roundIn_any (n := 0) (roundIn_of_wpIn hfn (wpIn_mono (hassign _ x A hsz) ?_))⟩
      rintro e a1 A1 ⟨rfl, ha, hc⟩
      have h1' := hc.obj h1 (fun e => e)
      have h2' := hc.obj h2 (fun e => e)
      refine ⟨_, run_beginRound h1' (by rw [hrec]), ?_⟩
      have hlt1 : w.heap.size + 1 < A1.heap.size := by have := hc.size; omega
      have hl2 : (A1.putObj (w.heap.size + 1) (.loop { rec .ready none with state := .busy })).heap[w.heap.size + 1]? = some (.loop { rec .ready none with state := .busy }) := World.putObj_heap_same hlt1
      have hk2 : (A1.putObj (w.heap.size + 1) (.loop { rec .ready none with state := .busy })).heap[w.heap.size]? = some (.deferred (some [])) := (World.putObj_heap_other (by omega)).trans h2'
      have hc2 : Chg (fun k => k = w.heap.size + 1) A1 (A1.putObj (w.heap.size + 1) (.loop { rec .ready none with state := .busy })) := Chg.putObj (T := fun k => k = w.heap.size + 1) rfl _
      generalize A1.putObj (w.heap.size + 1) (.loop { rec .ready none with state := .busy }) = A2 at hl2 hk2 hc2
      have hc02 : Chg (fun k => k = w.heap.size + 1) A A2 := (hc.mono (fun _ h => h.elim)).trans hc2
      have hi2 : I pre Mu A2 := hI _ _ _ _ hi (hc02.mono (fun k hk => ⟨by omega, fun e => hl (by rw [← hk]; exact e)⟩))
      refine wpIn_mono (hbody _ pre Mu x a1 A.heap.size A2 hi2 (hIM _ _ _ hi) hlen (ha₁ _ _ _ _ ha hc2) hsz hc02.size) ?_
      have fin : ∀ (jump : Option Code) (B2 : World) (M' : Nat → Prop), Chg (fun k => Mu k ∨ A.heap.size ≤ k) A2 B2 → (∀ k, M' k → Mu k ∨ A.heap.size ≤ k) →
          ∃ B, (Instr.endRound (w.heap.size + 1) jump).run P B2 = .ok (.bool jump.isNone) B ∧ B.heap[w.heap.size + 1]? = some (.loop (rec (if jump.isNone then .ready else .done) jump)) ∧ B.heap[w.heap.size]? = some (.deferred (some [])) ∧
            Chg (fun k => w.heap.size ≤ k ∧ ¬ M' k) B2 B ∧ Chg M A B ∧ ¬ M' (w.heap.size + 1) ∧ ¬ M' w.heap.size ∧ (∀ k, (M' k ∨ k = w.heap.size + 1) → M k ∨ A.heap.size ≤ k) ∧ w.heap.size + 2 ≤ B.heap.size := by
        intro jump B2 M' hcb hm
        have hn1 : ¬ M' (w.heap.size + 1) := fun e => (hm _ e).elim (fun h => hl h) (fun h => by omega)
        have hn0 : ¬ M' w.heap.size := fun e => (hm _ e).elim (fun h => hd h) (fun h => by omega)
        have hl3 := hcb.obj hl2 (fun e => e.elim (fun h => hl h) (fun h => by omega))
        have hd3 := hcb.obj hk2 (fun e => e.elim (fun h => hd h) (fun h => by omega))
        have := run_endRound (P := P) jump hl3
        rw [hrec] at this
        have hlt3 := (Array.getElem?_eq_some_iff.1 hl3).1
        refine ⟨_, this, by rw [World.putObj_heap_same hlt3, hrec], (World.putObj_heap_other (by omega)).trans hd3, Chg.putObj ⟨by omega, hn1⟩ _, ?_, hn1, hn0, ?_, by rw [World.putObj_size]; omega⟩
        · refine ((hc02.mono (fun k hk => (hM k).2 (.inr hk))).trans' hcb ?_).trans' (Chg.putObj (T := fun k => k = w.heap.size + 1) rfl _) (fun i hi => .inl ((hM i).2 (.inr hi)))
          rintro i (h | h)
          · exact .inl ((hM i).2 (.inl h))
          · exact .inr h
        · rintro k (h | h)
          · rcases hm k h with h | h
            · exact .inl ((hM k).2 (.inl h))
            · exact .inr h
          · exact .inl ((hM k).2 (.inr h))
      rintro e a3 B2 hp
      cases e with
      | normal =>
        obtain ⟨M', hi3, hcb, hm⟩ := hp
        obtain ⟨B, hr, hb1, hb2, hcB, hcA, hn1, hn0, hmm, hsz'⟩ := fin none B2 M' hcb hm
        exact ⟨_, B, hr, .inl ⟨rfl, _, ⟨M', fun _ => Iff.rfl, hn1, hn0, hI _ _ _ _ hi3 hcB, hsz', hb1, hb2⟩, hcA, hmm⟩⟩
      | ret =>
        obtain ⟨M', hi3, hcb, hm⟩ := hp
        obtain ⟨B, hr, hb1, hb2, hcB, hcA, hn1, hn0, hmm, hsz'⟩ := fin (some .ret) B2 M' hcb hm
        exact ⟨_, B, hr, .inr ⟨rfl, _, ⟨M', .ret, fun _ => Iff.rfl, hIx _ _ _ _ _ hi3 hcB, hn1, hb1, hn0, hb2⟩, hcA, hmm⟩⟩
      | exit id =>
        obtain ⟨M', hi3, hcb, hm⟩ := hp
        obtain ⟨B, hr, hb1, hb2, hcB, hcA, hn1, hn0, hmm, hsz'⟩ := fin (some (.exit id)) B2 M' hcb hm
        exact ⟨_, B, hr, .inr ⟨rfl, _, ⟨M', .exit id, fun _ => Iff.rfl, hIx _ _ _ _ _ hi3 hcB, hn1, hb1, hn0, hb2⟩, hcA, hmm⟩⟩
      | goto t =>
        obtain ⟨M', hi3, hcb, hm⟩ := hp
        obtain ⟨B, hr, hb1, hb2, hcB, hcA, hn1, hn0, hmm, hsz'⟩ := fin (some (.goto t)) B2 M' hcb hm
        exact ⟨_, B, hr, .inr ⟨rfl, _, ⟨M', .goto t, fun _ => Iff.rfl, hIx _ _ _ _ _ hi3 hcB, hn1, hb1, hn0, hb2⟩, hcA, hmm⟩⟩
      | panic ch => exact hp.elim
      | outgrown => exact hp.elim
    · exact ⟨M0, fun _ => Iff.rfl, fun e => by have := (hM0 _ e).2; omega, fun e => by have := (hM0 _ e).2; omega, hI1, by omega, hL1, hK1⟩
    · rintro e W2 (⟨v, rfl, (⟨xs, M, hS, Mu, hM, hl, hd, hi, hsz, h1, h2⟩ | ⟨pre, M, hSp, Mu, c, hM, hi, hl, h1, hd, h2⟩)⟩ | ⟨chain, pre, M, rfl, hSx, Mu, hM, hl, hd, hi, hsz, h1, h2⟩)
      · have := run_endLoop (P := P) h1 (by rw [hrec]; simp)
        rw [hrec] at this
        exact ⟨none, _, this, hdone _ xs Mu _ rfl hS (hI _ _ _ _ hi (Chg.putObj ⟨by omega, hl⟩ _)) ((World.putObj_heap_other (by omega)).trans h2)⟩
      · have := run_endLoop (P := P) h1 (by rw [hrec]; simp)
        rw [hrec] at this
        exact ⟨some c, _, this, hstop _ c pre Mu _ rfl hSp (hIx _ _ _ _ _ hi (Chg.putObj ⟨by omega, hl⟩ _)) ((World.putObj_heap_other (by omega)).trans h2)⟩
      · exact hpanic _ chain pre Mu _ rfl hSx hi h2
end Go.Proofs.YthfomoigaoffgaaGreat.K
