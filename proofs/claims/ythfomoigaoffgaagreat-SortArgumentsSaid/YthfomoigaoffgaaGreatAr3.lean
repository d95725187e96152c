/- Walks of sort.Check: the arities, entry by entry. -/
import Derived.Test.YthfomoigaoffgaaGreatAr2
import Derived.Test.YthfomoigaoffgaaGreatSo15x
import Derived.Test.YthfomoigaoffgaaGreatRf3
import Derived.Deep.LoopGhost
import Derived.Laws.Cover3
import Derived.Shelf.RegionOpen
namespace Go.Proofs.YthfomoigaoffgaaGreat.Ch
open Go Go.RowKit Go.Proofs.YthfomoigaoffgaaGreat.K Go.Proofs.YthfomoigaoffgaaGreat.G Go.Proofs.YthfomoigaoffgaaGreat.Ix Go.Proofs.YthfomoigaoffgaaGreat.O Go.Proofs.YthfomoigaoffgaaGreat.So
set_option linter.unusedSimpArgs false
set_option linter.unusedVariables false
attribute [local go_sem] Oper.semAt_some

def keyV (t c : ByteArray) : Value := .agg #[.string t, .string c]
/-- the entries of the map of arities -/
def ArOk (S : Nat → Prop) (w : World) : List Arx → List (Value × Value) → Prop
  | [], [] => True
  | a :: r, e :: s => e.1 = keyV a.1 a.2.1 ∧ (∃ A c, e.2 = .slice A a.2.2.length c ∧ a.2.2.length ≤ c ∧ C (slice str) S w A a.2.2) ∧ ArOk S w r s
  | _, _ => False
theorem ArOk.snoc {S : Nat → Prop} {w : World} {a : Arx} {e : Value × Value} (h2 : e.1 = keyV a.1 a.2.1) (h3 : ∃ A c, e.2 = .slice A a.2.2.length c ∧ a.2.2.length ≤ c ∧ C (slice str) S w A a.2.2) : ∀ {l : List Arx} {ps : List (Value × Value)}, ArOk S w l ps → ArOk S w (l ++ [a]) (ps ++ [e])
  | [], [], _ => ⟨h2, h3, trivial⟩
  | _ :: _, _ :: _, h => ⟨h.1, h.2.1, ArOk.snoc h2 h3 h.2.2⟩
  | [], _ :: _, h => h.elim
  | _ :: _, [], h => h.elim
theorem ArOk.keys {S : Nat → Prop} {w : World} : ∀ {l : List Arx} {ps : List (Value × Value)}, ArOk S w l ps → ∀ e ∈ ps, isS2 e.1
  | [], [], _ => fun e he => absurd he List.not_mem_nil
  | a :: _, _ :: _, h => fun e he => by
    rcases List.mem_cons.1 he with rfl | he
    · exact ⟨a.1, a.2.1, h.1⟩
    · exact ArOk.keys h.2.2 e he
  | [], _ :: _, h => h.elim
  | _ :: _, [], h => h.elim
theorem key_eq (t c t' c' : ByteArray) : eqS2 (keyV t c) (keyV t' c') = (t' == t && c' == c) := by
  show (t == t' && c == c') = (t' == t && c' == c)
  have h : ∀ a b : ByteArray, (a == b) = (b == a) := fun a b => by rw [Bool.eq_iff_iff, beq_iff, beq_iff]; exact eq_comm
  rw [h t t', h c c']
theorem ArOk.find {S : Nat → Prop} {w : World} (t c : ByteArray) : ∀ {l : List Arx} {ps : List (Value × Value)}, ArOk S w l ps →
    (findA l t c = none ∧ assocV eqS2 (keyV t c) ps = none) ∨ ∃ b A cp, findA l t c = some b ∧ assocV eqS2 (keyV t c) ps = some (.slice A b.2.2.length cp) ∧ b.2.2.length ≤ cp ∧ C (slice str) S w A b.2.2
  | [], [], _ => .inl ⟨rfl, rfl⟩
  | a :: r, e :: s, h => by
    obtain ⟨h1, ⟨A, cp, h2, h3, h4⟩, h5⟩ := h
    unfold findA assocV
    rw [List.find?_cons, List.find?_cons]
    rw [h1, key_eq]
    cases hq : (a.1 == t && a.2.1 == c) with
    | true => exact .inr ⟨a, A, cp, rfl, (by rw [← h2]; rfl), h3, h4⟩
    | false => exact ArOk.find t c h5
  | [], _ :: _, h => h.elim
  | _ :: _, [], h => h.elim
theorem find_met (l : List Arx) (t c : ByteArray) : (findA l t c).isSome = (l.map (fun a => (a.1, a.2.1))).contains (t, c) := by
  unfold findA
  induction l with
  | nil => rfl
  | cons a r ih =>
    rw [List.find?_cons, List.map_cons, List.contains_cons]
    have e : ((t, c) == (a.1, a.2.1)) = (a.1 == t && a.2.1 == c) := by
      show (t == a.1 && c == a.2.1) = _
      have h : ∀ a b : ByteArray, (a == b) = (b == a) := fun a b => by rw [Bool.eq_iff_iff, beq_iff, beq_iff]; exact eq_comm
      rw [h t, h c]
    rw [e]
    cases hq : (a.1 == t && a.2.1 == c) with
    | true => rfl
    | false => rw [Bool.false_or]; exact ih
/-- an arity, in memory -/
theorem ar_at {S : Nat → Prop} {w : World} {A : Option Addr} {l : List Arx} (h : C kAr S w A l) (j : Nat) (hj : j < l.length) : ∃ b o A' c', A = some ⟨b, o, none⟩ ∧ b < w.heap.size ∧ w.cell? ⟨b, o + j * 3, none⟩ = some (.string (l[j]'hj).1) ∧ w.cell? ⟨b, o + j * 3 + 1, none⟩ = some (.string (l[j]'hj).2.1) ∧
    w.cell? ⟨b, o + j * 3 + 2, none⟩ = some (.slice A' (l[j]'hj).2.2.length c') ∧ (l[j]'hj).2.2.length ≤ c' ∧ C (slice str) S w A' (l[j]'hj).2.2 := by
  obtain ⟨b, o, cs, e, _, hb, hK, hc⟩ := h.at_ j hj
  obtain ⟨A', c', rfl, h1, h2⟩ := kAr_open hK
  exact ⟨b, o, A', c', e, hb, hc 0 _ rfl, hc 1 _ rfl, hc 2 _ rfl, h1, h2⟩
theorem ars_take (l : List Arx) (k : Nat) (h : k < l.length) : (l.take (k + 1)).map (fun a => (a.1, a.2.1)) = (l.take k).map (fun a => (a.1, a.2.1)) ++ [((l[k]'h).1, (l[k]'h).2.1)] := by
  rw [List.take_succ_eq_append_getElem h, List.map_append]; rfl
theorem sl_at {S : Nat → Prop} {w : World} {A : Option Addr} {l : List (List ByteArray)} (h : C (slice str) S w A l) (j : Nat) (hj : j < l.length) : ∃ b o A' c', A = some ⟨b, o, none⟩ ∧ b < w.heap.size ∧ w.cell? ⟨b, o + j, none⟩ = some (.slice A' (l[j]'hj).length c') ∧ (l[j]'hj).length ≤ c' ∧ C str S w A' (l[j]'hj) := by
  obtain ⟨b, o, cs, e, _, hb, ⟨A', c', rfl, h1, h2⟩, hc⟩ := h.at_ j hj
  have e1 : (slice str).sz = 1 := rfl
  have := hc 0 _ rfl
  rw [e1, Nat.mul_one, Nat.add_zero] at this
  exact ⟨b, o, A', c', e, hb, this, h1, h2⟩
theorem zero_sorts (w : World) : (zeroValue 34).run Tryz.prog w = .ok (.slice none 0 0) w := by kernel_rfl

/-- the blocks of arities: the theory's box, the result, the map, its box -/
structure ArB (S : Nat → Prop) (r : Raw) (T : Thy) (mb : Nat) (w : World) (ps : List (Value × Value)) (W : World) : Prop where
  thy : W.heap[w.heap.size]? = some (.cells (thyC r T) 29 (0, 0))
  res : W.heap[w.heap.size + 1]? = some (.cells #[.int .i64 0] 35 (0, 0))
  map : MapIs W (w.heap.size + 2) ps
  box : W.heap[w.heap.size + 3]? = some (.cells #[.map (some (w.heap.size + 2))] 100 (0, 0))
  below : Below w.heap.size w W
  args : MapIs W mb (tyP T.tys)
theorem ArB.step {S : Nat → Prop} {r : Raw} {T : Thy} {mb : Nat} {w : World} {ps : List (Value × Value)} {W W' : World} (h : ArB S r T mb w ps W) (hb : Below W.heap.size W W') : ArB S r T mb w ps W' :=
  ⟨Rf.box_below h.thy hb, Rf.box_below h.res hb, h.map.below hb, Rf.box_below h.box hb, h.below.trans (hb.mono h.below.size), h.args.below hb⟩
theorem ArB.lt {S : Nat → Prop} {r : Raw} {T : Thy} {mb : Nat} {w : World} {ps : List (Value × Value)} {W : World} (h : ArB S r T mb w ps W) : w.heap.size + 4 ≤ W.heap.size := (Array.getElem?_eq_some_iff.1 h.box).1
theorem ArB.cells {S : Nat → Prop} {r : Raw} {T : Thy} {mb : Nat} {w : World} {ps : List (Value × Value)} {W : World} (h : ArB S r T mb w ps W) :
    W.cell? ⟨w.heap.size + 1, 0, none⟩ = some (.int .i64 0) ∧ W.frozen? ⟨w.heap.size + 1, 0, none⟩ = false ∧ W.cell? ⟨w.heap.size + 3, 0, none⟩ = some (.map (some (w.heap.size + 2))) := by
  have h1 := h.res
  have h2 := h.box
  simp [World.cell?, World.frozen?, h1, h2]

theorem ArB.start (S : Nat → Prop) (r : Raw) (T : Thy) (mb : Nat) (w : World) (h : MapIs w mb (tyP T.tys)) :
    ArB S r T mb w [] ((((w.alloc (.cells (thyC r T) 29)).alloc (.cells #[.int .i64 0] 35)).alloc (.map #[] 0)).alloc (.cells #[.map (some (w.heap.size + 2))] 100)) := by
  have b1 : Below w.heap.size w (w.alloc (.cells (thyC r T) 29)) := (Below.refl _ _).alloc (Nat.le_refl _) _
  have n1 := World.alloc_heap_new w (.cells (thyC r T) 29)
  have s1 : (w.alloc (.cells (thyC r T) 29)).heap.size = w.heap.size + 1 := World.size_alloc _ _
  generalize w.alloc (.cells (thyC r T) 29) = W1 at b1 n1 s1
  have b2 : Below W1.heap.size W1 (W1.alloc (.cells #[.int .i64 0] 35)) := (Below.refl _ _).alloc (Nat.le_refl _) _
  have n2 := World.alloc_heap_new W1 (.cells #[.int .i64 0] 35)
  have s2 : (W1.alloc (.cells #[.int .i64 0] 35)).heap.size = w.heap.size + 2 := by rw [World.size_alloc, s1]
  generalize W1.alloc (.cells #[.int .i64 0] 35) = W2 at b2 n2 s2
  have b3 : Below W2.heap.size W2 (W2.alloc (.map #[] 0)) := (Below.refl _ _).alloc (Nat.le_refl _) _
  have n3 := MapIs.made W2
  have s3 : (W2.alloc (.map #[] 0)).heap.size = w.heap.size + 3 := by rw [World.size_alloc, s2]
  generalize W2.alloc (.map #[] 0) = W3 at b3 n3 s3
  have b4 : Below W3.heap.size W3 (W3.alloc (.cells #[.map (some (w.heap.size + 2))] 100)) := (Below.refl _ _).alloc (Nat.le_refl _) _
  have n4 := World.alloc_heap_new W3 (.cells #[.map (some (w.heap.size + 2))] 100)
  rw [s1] at n2
  rw [s2] at n3
  rw [s3] at n4
  have q13 := b2.trans (b3.mono b2.size)
  have q14 := q13.trans (b4.mono q13.size)
  have q24 := b3.trans (b4.mono b3.size)
  exact ⟨Rf.box_below n1 q14, Rf.box_below n2 q24, n3.below b4, n4, b1.trans (q14.mono b1.size), (h.below b1).below q14⟩
theorem ArB.put {S : Nat → Prop} {r : Raw} {T : Thy} {mb : Nat} {w : World} {ps ps' : List (Value × Value)} {W W' : World} (h : ArB S r T mb w ps W) (hc : Chg (fun b => b = w.heap.size + 2) W W') (hm : MapIs W' (w.heap.size + 2) ps') (hmb : mb < w.heap.size) : ArB S r T mb w ps' W' :=
  ⟨hc.obj h.thy (by omega), hc.obj h.res (by omega), hm, hc.obj h.box (by omega), h.below.trans (hc.below h.below.size (fun k hk => by omega)), h.args.chg hc (by omega)⟩
/-- a function's calls that were put off by its ranges over functions -/
def mark (D : Nat) : Deferred := { target := .collected D, args := #[] }
theorem leave_marks {fn : Func} {tmps : Array Value} {R : Ending → World → Prop} : ∀ (Ds : List Nat) (W : World), Ds.Nodup → (∀ D ∈ Ds, W.heap[D]? = some (.deferred (some []))) →
    (∀ W', Chg (fun k => k ∈ Ds) W W' → LeavesInM Fence.wide 0 Tryz.prog fn tmps R [] .returning W') → LeavesInM Fence.wide 0 Tryz.prog fn tmps R (Ds.map mark) .returning W
  | [], W, _, _, h => h W (Chg.refl _ _)
  | D :: r, W, hn, hd, h => by
    obtain ⟨hn1, hn2⟩ := List.nodup_cons.1 hn
    refine ⟨by simp, .inl ⟨D, W.putObj D (.deferred none), rfl, run_takeDeferred (hd D (List.mem_cons_self ..)), ?_⟩⟩
    have hc : Chg (fun k => k = D) W (W.putObj D (.deferred none)) := Chg.putObj (T := fun k => k = D) rfl _
    refine leave_marks r _ hn2 (fun E hE => hc.obj (hd E (List.mem_cons_of_mem _ hE)) (fun e => hn1 (by rw [← e]; exact hE))) (fun W' hW => h W' ?_)
    exact (hc.mono (fun k e => by rw [e]; exact List.mem_cons_self ..)).trans (hW.mono (fun k hk => List.mem_cons_of_mem _ hk))
/-- what arities returns lies in the second block -/
theorem ar_ret {tmps : Array Value} {W w : World} {x : Int} (Ds : List Nat) (hs : tmps.getD 4 undef = .pointer (some ⟨w.heap.size + 1, 0, none⟩)) (hc : W.heap[w.heap.size + 1]? = some (.cells #[.int .i64 x] 35 (0, 0)))
    (hn : Ds.Nodup) (hd : ∀ D ∈ Ds, W.heap[D]? = some (.deferred (some []))) (hB : Below w.heap.size w W) (hge : ∀ D ∈ Ds, w.heap.size ≤ D) :
    LeavesInM Fence.wide 0 Tryz.prog Tryz.f42 tmps (fun e w' => e = .returned (.int .i64 x) ∧ Below w.heap.size w w') (Ds.map mark) .returning W := by
  refine leave_marks Ds W hn hd (fun W' hW => ?_)
  have h1 : W'.heap[w.heap.size + 1]? = some (.cells #[.int .i64 x] 35 (0, 0)) := hW.obj hc (fun e => by have := hd _ e; rw [hc] at this; cases this)
  have h2 : W'.cell? ⟨w.heap.size + 1, 0, none⟩ = some (.int .i64 x) := by simp [World.cell?, h1]
  have hB' : Below w.heap.size w W' := hB.trans (hW.below hB.size (fun k hk => hge k hk))
  have hs' : tmps[4]?.getD undef = .pointer (some ⟨w.heap.size + 1, 0, none⟩) := by simpa using hs
  exact ⟨.int .i64 x, by simp [results, Tryz.results42, go_sem, hs', h2], rfl, hB'⟩
theorem ar_ret0 {tmps : Array Value} {W w : World} {x : Int} (hs : tmps.getD 4 undef = .pointer (some ⟨w.heap.size + 1, 0, none⟩)) (hc : W.heap[w.heap.size + 1]? = some (.cells #[.int .i64 x] 35 (0, 0))) (hB : Below w.heap.size w W) :
    bodyPostM Fence.wide 0 Tryz.prog Tryz.f42 (fun e w' => e = .returned (.int .i64 x) ∧ Below w.heap.size w w') .ret { tmps := tmps, defers := [] } W :=
  ar_ret [] hs hc List.nodup_nil (fun D h => absurd h List.not_mem_nil) hB (fun D h => absurd h List.not_mem_nil)
/-- the result, stored -/
theorem ArB.stored {S : Nat → Prop} {r : Raw} {T : Thy} {mb : Nat} {w : World} {ps : List (Value × Value)} {W : World} (h : ArB S r T mb w ps W) (x : Int) :
    (W.setCell ⟨w.heap.size + 1, 0, none⟩ (.int .i64 x)).heap[w.heap.size + 1]? = some (.cells #[.int .i64 x] 35 (0, 0)) ∧ Below w.heap.size w (W.setCell ⟨w.heap.size + 1, 0, none⟩ (.int .i64 x)) :=
  ⟨by have := Rf.put_cell h.res 0 (.int .i64 x); simpa using this, h.below.setCell (p := ⟨w.heap.size + 1, 0, none⟩) (by show w.heap.size ≤ w.heap.size + 1; omega) _⟩


/-- no arity has failed: one type's arities are equally long -/
theorem arE_len {cs : List Cl} {ts : List Td} : ∀ {ars : List Arx} {met : List (ByteArray × ByteArray)}, arE cs ts met ars = 0 → ∀ a ∈ ars, ∃ n, args? ts a.1 = some n ∧ (a.2.2.length : Int) = n
  | [], _, _ => fun a h => absurd h List.not_mem_nil
  | d :: r, met, h => by
    rw [arE] at h
    cases hn : args? ts d.1 with
    | none => rw [hn] at h; exact absurd (show (9 : Int) = 0 from h) (by decide)
    | some n =>
      rw [hn] at h
      replace h : (if has cs d.2.1 then (if met.contains (d.1, d.2.1) then 10 else if (d.2.2.length : Int) ≠ n then 5 else if sortsX cs d.2.2 ≠ 0 then sortsX cs d.2.2 else arE cs ts (met ++ [(d.1, d.2.1)]) r) else 9) = 0 := h
      by_cases h1 : has cs d.2.1 = true
      · rw [if_pos h1] at h
        by_cases h2 : met.contains (d.1, d.2.1) = true
        · rw [if_pos h2] at h; exact absurd h (by decide)
        · rw [if_neg h2] at h
          by_cases h3 : (d.2.2.length : Int) = n
          · rw [if_neg (fun e => e h3)] at h
            by_cases h4 : sortsX cs d.2.2 = 0
            · rw [if_neg (fun e => e h4)] at h
              intro a ha
              rcases List.mem_cons.1 ha with rfl | ha
              · exact ⟨n, hn, h3⟩
              · exact arE_len h a ha
            · rw [if_pos h4] at h; exact absurd h h4
          · rw [if_pos h3] at h; exact absurd h (by decide)
      · rw [if_neg h1] at h; exact absurd h (by decide)
theorem find_mem {l : List Arx} {t c : ByteArray} {b : Arx} (h : findA l t c = some b) : b ∈ l ∧ b.1 = t ∧ b.2.1 = c := by
  unfold findA at h
  have h1 := List.find?_some h
  simp only [Bool.and_eq_true, beq_iff] at h1
  exact ⟨List.mem_of_find?_eq_some h, h1⟩
theorem are_find {cs : List Cl} {ts : List Td} {ars : List Arx} (h : arE cs ts [] ars = 0) : ∀ a ∈ ars, ∀ c b, findA ars a.1 c = some b → b.2.2.length = a.2.2.length := by
  intro a ha c b hb
  obtain ⟨h1, h2, _⟩ := find_mem hb
  obtain ⟨n, e1, e2⟩ := arE_len h a ha
  obtain ⟨m, e3, e4⟩ := arE_len h b h1
  rw [h2, e1] at e3
  cases e3
  omega
/-- an arity below, held against one above -/
def okC (cs : List Cl) (ars : List Arx) (t : ByteArray) (ss : List (List ByteArray)) (c : ByteArray) : Bool := match findA ars t c with
  | none => false
  | some b => zipW cs ss b.2.2
theorem regB_ok (cs : List Cl) (ars : List Arx) (t ac : ByteArray) (ss : List (List ByteArray)) : regB cs ars (t, ac, ss) = (abL cs ac).all (okC cs ars t ss) := rfl
/-- the lists of calls put off, one for each range over a function so far -/
def DsOk (w : World) (Ds : List Nat) (W : World) : Prop := Ds.Nodup ∧ (∀ D ∈ Ds, W.heap[D]? = some (.deferred (some []))) ∧ ∀ D ∈ Ds, w.heap.size + 4 ≤ D
theorem DsOk.nil (w W : World) : DsOk w [] W := ⟨List.nodup_nil, fun D h => absurd h List.not_mem_nil, fun D h => absurd h List.not_mem_nil⟩
theorem DsOk.lt {w W : World} {Ds : List Nat} (h : DsOk w Ds W) {D : Nat} (hD : D ∈ Ds) : D < W.heap.size := (Array.getElem?_eq_some_iff.1 (h.2.1 D hD)).1
theorem DsOk.chg {w W W' : World} {Ds : List Nat} {T : Nat → Prop} (h : DsOk w Ds W) (hc : Chg T W W') (hT : ∀ k, T k → k < w.heap.size + 4 ∨ W.heap.size ≤ k) : DsOk w Ds W' :=
  ⟨h.1, fun D hD => hc.obj (h.2.1 D hD) (fun e => by have := h.lt hD; have := h.2.2 D hD; have := hT D e; omega), h.2.2⟩
theorem DsOk.cons {w W : World} {Ds : List Nat} {D : Nat} (h : DsOk w Ds W) (hD : W.heap[D]? = some (.deferred (some []))) (hn : D ∉ Ds) (hg : w.heap.size + 4 ≤ D) : DsOk w (D :: Ds) W :=
  ⟨List.nodup_cons.2 ⟨hn, h.1⟩, fun E hE => (List.mem_cons.1 hE).elim (fun e => by rw [e]; exact hD) (h.2.1 E), fun E hE => (List.mem_cons.1 hE).elim (fun e => by rw [e]; exact hg) (h.2.2 E)⟩
/-- the rounds of a range over the classes above -/
def RgI (w V : World) (ok : ByteArray → Bool) (pre : List ByteArray) (M : Nat → Prop) (W : World) : Prop :=
  (∀ k, M k ↔ k = w.heap.size + 1) ∧ Chg (fun k => V.heap.size ≤ k) V W ∧ pre.all ok = true
def RgX (w V : World) (ok : ByteArray → Bool) (c : Code) (pre : List ByteArray) (M : Nat → Prop) (W : World) : Prop :=
  c = .ret ∧ (∀ k, M k ↔ k = w.heap.size + 1) ∧ W.heap[w.heap.size + 1]? = some (.cells #[.int .i64 31] 35 (0, 0)) ∧ Chg (fun k => k = w.heap.size + 1 ∨ V.heap.size ≤ k) V W ∧ pre.all ok = false
theorem RgI.chg {w V A B : World} {ok : ByteArray → Bool} {pre : List ByteArray} {M : Nat → Prop} (h : RgI w V ok pre M A) (hc : Chg (fun k => V.heap.size ≤ k ∧ ¬ M k) A B) : RgI w V ok pre M B :=
  ⟨h.1, h.2.1.trans (hc.mono (fun k e => e.1)), h.2.2⟩
theorem RgX.chg {w V A B : World} {ok : ByteArray → Bool} {c : Code} {pre : List ByteArray} {M : Nat → Prop} (h : RgX w V ok c pre M A) (hc : Chg (fun k => V.heap.size ≤ k ∧ ¬ M k) A B) : RgX w V ok c pre M B :=
  ⟨h.1, h.2.1, hc.obj h.2.2.1 (fun e => e.2 ((h.2.1 _).2 rfl)), h.2.2.2.1.trans (hc.mono (fun k e => .inr e.1)), h.2.2.2.2⟩
theorem all_false_of_pre {ok : ByteArray → Bool} {pre l : List ByteArray} (hp : pre <+: l) (h : pre.all ok = false) : l.all ok = false := by
  obtain ⟨t, rfl⟩ := hp
  rw [List.all_append, h, Bool.false_and]
theorem all_snoc (ok : ByteArray → Bool) (pre : List ByteArray) (x : ByteArray) (h : pre.all ok = true) : (pre ++ [x]).all ok = ok x := by
  rw [List.all_append, h, Bool.true_and, List.all_cons, List.all_nil, Bool.and_true]

set_option maxRecDepth 100000 in
set_option maxHeartbeats 8000000 in
theorem arities_calls (S : Nat → Prop) (r : Raw) (T : Thy) (w : World) (mb : Nat) (hT : ThyR S w r T) (hmb : MapIs w mb (tyP T.tys)) (hars : ∀ a ∈ T.ars, a.1.size ≤ maxLen ∧ a.2.1.size ≤ maxLen ∧ a.2.2.length ≤ 1000000 ∧ ∀ s ∈ a.2.2, s.length ≤ 1000000 ∧ ∀ x ∈ s, x.size ≤ maxLen) (hfew : (allSups T.cls).length ≤ 100000000) :
    Calls Tryz.prog 42 #[thyV r T, .map (some mb)] w fun e w' => e = .returned (.int .i64 (aritiesE T.cls T.tys T.ars)) ∧ Below w.heap.size w w' := by
  obtain ⟨nm, a1, c1, a2, c2, a3, c3, a4, n4, c4, a5, n5, c5, a6, n6, c6⟩ := r
  have HT := Lib.hid hT
  have HC := Lib.hid (show C kAr S w a3 T.ars from hT.ars)
  have HArs := Lib.hid hars
  have hmbl := hmb.lt
  have HAB := Lib.hid (ArB.start S ⟨nm, a1, c1, a2, c2, a3, c3, a4, n4, c4, a5, n5, c5, a6, n6, c6⟩ T mb w hmb)
  have HHas := Lib.hid (fun (W : World) (hb : Below w.heap.size w W) nm => has_calls S _ T W (hT.below hb) nm)
  have HSo := Lib.hid (fun (W : World) (hb : Below w.heap.size w W) Ss A c s hC hca hl hss => sorted_calls S Ss _ T A c s W (hT.below hb) hC hca hl hss hfew)
  have hlm : T.ars.length ≤ 9223372036854775807 := hT.ars.len
  have hmm := @run_makeMap Tryz.prog
  have hag := Tryz.isAgg29
  have hsz := Tryz.sizeOf29
  have hb1 : Below w.heap.size w (w.alloc (.cells (thyC ⟨nm, a1, c1, a2, c2, a3, c3, a4, n4, c4, a5, n5, c5, a6, n6, c6⟩ T) 29)) := (Below.refl _ _).alloc (Nat.le_refl _) _
  unfold aritiesE
  refine (callsIn_wide (n := 0)).1 ?_
  refine callsIn_of_wp_marks Tryz.func42 rfl trivial ?_ rfl
  simp only [Tryz.ntmps42, List.size_toArray, List.length_cons, List.length_nil, Nat.reduceAdd, Nat.reduceSub, Array.replicate_succ, Array.replicate_zero, List.push_toArray, List.append_toArray, List.nil_append, List.cons_append]
  refine wpIn_wide.2 ?_
  by_cases h300 : 300 < T.ars.length
  · rw [if_pos h300]
    have g : (300 : Int) < (T.ars.length : Int) := by omega
    have HB1 := Lib.hid hb1
    have HN2 := Lib.hid (World.alloc_heap_new (w.alloc (.cells (thyC ⟨nm, a1, c1, a2, c2, a3, c3, a4, n4, c4, a5, n5, c5, a6, n6, c6⟩ T) 29)) (.cells #[.int .i64 5] 35))
    clear hT hmb hars h300 hb1
    unfold thyV
    unfold thyC at HN2 HB1 ⊢
    dsimp only at HN2 HB1 ⊢
    go_wp2
    refine ar_ret0 rfl ?_ ?_
    · rw [World.size_alloc] at HN2; exact HN2.out
    · exact HB1.out.alloc HB1.out.size _
  · rw [if_neg h300]
    have g : ¬ (300 : Int) < (T.ars.length : Int) := by omega
    generalize hE1 : arE T.cls T.tys [] T.ars = E1
    have HE1 := Lib.hid (show arE T.cls T.tys ((T.ars.take 0).map (fun a => (a.1, a.2.1))) (T.ars.drop 0) = E1 from hE1)
    generalize hRz : (if E1 ≠ 0 then E1 else if T.ars.all (regB T.cls T.ars) then 0 else 31) = Rz
    have HRz := Lib.hid hRz
    have HA0 := Lib.hid hE1
    clear hT hmb hars h300 hb1 hE1 hRz
    unfold thyV thyC at HHas HSo
    unfold thyV
    unfold thyC at HAB ⊢
    dsimp only at HAB HHas HSo ⊢
    go_wp2
    go_loopg [31] T.ars.length (fun gg v wr => ∃ (k : Nat) (ps : List (Value × Value)), v = .int .i64 k ∧ k ≤ T.ars.length ∧ T.ars.length - k ≤ gg ∧ Hid (arE T.cls T.tys ((T.ars.take k).map (fun a => (a.1, a.2.1))) (T.ars.drop k) = E1) ∧ Hid (ArOk S w (T.ars.take k) ps) ∧ Hid (ArB S ⟨nm, a1, c1, a2, c2, a3, c3, a4, n4, c4, a5, n5, c5, a6, n6, c6⟩ T mb w ps wr))
    case atStart => exact ⟨0, [], rfl, by omega, by omega, HE1, trivial, HAB⟩
    case round =>
      clear HE1 HAB hmm
      obtain ⟨k, ps, rfl, hk, hg, HE, HO, HB⟩ := hrel
      have hlt4 := HB.out.lt
      by_cases hlt : k < T.ars.length
      · have hltz : (k : Int) < (T.ars.length : Int) := by omega
        have Hlt := Lib.hid hlt
        have Htk := Lib.hid (ars_take T.ars k hlt)
        have Hts := Lib.hid (show T.ars.take (k + 1) = T.ars.take k ++ [T.ars[k]'hlt] from List.take_succ_eq_append_getElem hlt)
        have hE := HE.out
        rw [List.drop_eq_getElem_cons hlt, arE] at hE
        obtain ⟨b, o, As, cp, rfl, hbw, qw0, qw1, qw2, hlc, hCs⟩ := ar_at HC.out k hlt
        have hbb := HB.out.below
        have q0 := (hbb.cell (p := ⟨b, o + k * 3, none⟩) hbw).trans qw0
        have q1 := (hbb.cell (p := ⟨b, o + k * 3 + 1, none⟩) hbw).trans qw1
        have q2 := (hbb.cell (p := ⟨b, o + k * 3 + 2, none⟩) hbw).trans qw2
        have hsm := HArs.out _ (List.getElem_mem hlt)
        have hO := HO.out
        generalize T.ars[k]'hlt = a at hE qw0 qw1 qw2 hlc hCs q0 q1 q2 hsm Htk Hts
        obtain ⟨at_, ac, ss⟩ := a
        dsimp only at hE qw0 qw1 qw2 hlc hCs q0 q1 q2 hsm Htk Hts
        have HSm := Lib.hid hsm
        have HCs := Lib.hid hCs
        have hssl : ss.length ≤ 9223372036854775807 := hCs.len
        obtain ⟨X1, hX1⟩ : ∃ X1, wr.alloc (.cells #[.string at_, .string ac, .slice As ss.length cp] 50) = X1 := ⟨_, rfl⟩
        have hx1 : Below wr.heap.size wr X1 := by rw [← hX1]; exact (Below.refl _ _).alloc (Nat.le_refl _) _
        have HBX1 := Lib.hid (HB.out.step hx1)
        have HX1 := Lib.hid (show X1.heap[wr.heap.size]? = some (.cells #[.string at_, .string ac, .slice As ss.length cp] 50 (0, 0)) by rw [← hX1]; exact World.alloc_heap_new wr _)
        have x0 : X1.cell? ⟨wr.heap.size, 0, none⟩ = some (.string at_) := by simp [World.cell?, HX1.out]
        have x1 : X1.cell? ⟨wr.heap.size, 1, none⟩ = some (.string ac) := by simp [World.cell?, HX1.out]
        have hlook := str_law.lookup (mt := 75) Tryz.underlying75 HBX1.out.args (tyP_ok _) ⟨at_, rfl⟩ (zero_int X1) true
        rw [tyP_assoc, if_pos rfl] at hlook
        obtain ⟨r0, r1, _⟩ := HBX1.out.cells
        obtain ⟨hst1, hst2⟩ := HBX1.out.stored 9
        have HSt1 := Lib.hid hst1
        have HSt2 := Lib.hid hst2
        clear hO hsm hCs hx1 HE hst1 hst2 hbw
        have Hqw2 := Lib.hid qw2
        clear qw0 qw1 qw2
        cases hn : args? T.tys at_ with
        | none =>
          rw [hn] at hE hlook
          obtain rfl : (9 : Int) = E1 := hE
          obtain rfl : (9 : Int) = Rz := (if_pos (by decide)).symm.trans HRz.out
          have hlook2 : Sem.run Tryz.prog (Instr.lookup 75 (.map (some mb)) (.string at_) true) X1 = .ok (.tuple #[.int .i64 0, .bool false]) X1 := hlook
          clear hn hlook HRz
          go_wp2
          exact ar_ret0 rfl HSt1.out HSt2.out
        | some n =>
          rw [hn] at hE hlook
          have hlook2 : Sem.run Tryz.prog (Instr.lookup 75 (.map (some mb)) (.string at_) true) X1 = .ok (.tuple #[.int .i64 n, .bool true]) X1 := hlook
          have hE : (if has T.cls ac then (if ((T.ars.take k).map (fun a => (a.1, a.2.1))).contains (at_, ac) then 10 else if (ss.length : Int) ≠ n then 5 else if sortsX T.cls ss ≠ 0 then sortsX T.cls ss else arE T.cls T.tys ((T.ars.take k).map (fun a => (a.1, a.2.1)) ++ [(at_, ac)]) (T.ars.drop (k + 1))) else 9) = E1 := hE
          have HHx := Lib.hid (HHas.out X1 HBX1.out.below ac)
          obtain ⟨y0, y1, y2, y3, y4, y5, y6⟩ := thy_cells HBX1.out.thy
          dsimp only at y0 y1 y2 y3 y4 y5 y6
          have HE := Lib.hid hE
          clear hn hlook hE HSt1 HSt2
          go_wp2_with fail
          refine HHx.out.mono ?_
          rintro e w3 ⟨rfl, hb3⟩
          have HBX3 := Lib.hid (HBX1.out.step hb3)
          have HX3 := Lib.hid (Rf.box_below HX1.out hb3)
          clear hb3 hX1 x0 x1 y0 y1 y2 y3 y4 y5 y6 hlook2 r0 r1 HX1 HBX1 q0 q1 q2
          obtain ⟨r0, r1, r3⟩ := HBX3.out.cells
          have x0 : w3.cell? ⟨wr.heap.size, 0, none⟩ = some (.string at_) := by simp [World.cell?, HX3.out]
          have x1 : w3.cell? ⟨wr.heap.size, 1, none⟩ = some (.string ac) := by simp [World.cell?, HX3.out]
          have hE := HE.out
          cases hh : has T.cls ac with
          | false =>
            rw [hh, if_neg (by decide)] at hE
            subst hE
            obtain ⟨hst1, hst2⟩ := HBX3.out.stored 9
            have HSt1 := Lib.hid hst1
            have HSt2 := Lib.hid hst2
            obtain rfl : (9 : Int) = Rz := (if_pos (by decide)).symm.trans HRz.out
            clear hst1 hst2 hh HE HRz
            go_wp2
            exact ar_ret0 rfl HSt1.out HSt2.out
          | true =>
            rw [hh, if_pos rfl, ← find_met] at hE
            obtain ⟨X4, hX4⟩ : ∃ X4, w3.alloc (.cells #[.string at_, .string ac] 102) = X4 := ⟨_, rfl⟩
            have hx4 : Below w3.heap.size w3 X4 := by rw [← hX4]; exact (Below.refl _ _).alloc (Nat.le_refl _) _
            have HBX4 := Lib.hid (HBX3.out.step hx4)
            have HX4 := Lib.hid (Rf.box_below HX3.out hx4)
            have HK4 := Lib.hid (show X4.heap[w3.heap.size]? = some (.cells #[.string at_, .string ac] 102 (0, 0)) by rw [← hX4]; exact World.alloc_heap_new w3 _)
            have hlook := arity_law.lookup (mt := 100) Tryz.underlying100 HBX4.out.map HO.out.keys ⟨at_, ac, rfl⟩ (zero_sorts X4) true
            rw [if_pos rfl] at hlook
            obtain ⟨s0, s1, s3⟩ := HBX4.out.cells
            have t2 : X4.cell? ⟨wr.heap.size, 2, none⟩ = some (.slice As ss.length cp) := by simp [World.cell?, HX4.out]
            have k0 : X4.cell? ⟨w3.heap.size, 0, none⟩ = some (.string at_) := by simp [World.cell?, HK4.out]
            have k1 : X4.cell? ⟨w3.heap.size, 1, none⟩ = some (.string ac) := by simp [World.cell?, HK4.out]
            clear hx4 hh HE
            rcases HO.out.find at_ ac with ⟨hf1, hf2⟩ | ⟨bq, Aq, cq, hf1, hf2, _, _⟩
            · unfold keyV at hf2
              rw [hf2] at hlook
              have hlook2 : Sem.run Tryz.prog (Instr.lookup 100 (.map (some (w.heap.size + 2))) (.agg #[.string at_, .string ac]) true) X4 = .ok (.tuple #[.slice none 0 0, .bool false]) X4 := hlook
              rw [hf1] at hE
              have hE : (if (ss.length : Int) ≠ n then 5 else if sortsX T.cls ss ≠ 0 then sortsX T.cls ss else arE T.cls T.tys ((T.ars.take k).map (fun a => (a.1, a.2.1)) ++ [(at_, ac)]) (T.ars.drop (k + 1))) = E1 := hE
              have Hf2 := Lib.hid hf2
              clear hlook hf1 hf2
              by_cases hsn : (ss.length : Int) = n
              · rw [if_neg (fun h => h hsn)] at hE
                have hsz2 : ((ss.length : Int) != n) = false := by simp [hsn]
                generalize hSX : sortsX T.cls ss = SX at hE
                have HSX := Lib.hid (show sortsX T.cls (ss.drop 0) = SX from hSX)
                have HE := Lib.hid hE
                clear hSX hE hsn
                go_wp2
                clear hlook2 hX4 t2 k0 k1 s0 s1 s3
                obtain ⟨W0, hW0⟩ : ∃ W0, W0 = wr := ⟨_, rfl⟩
                subst hW0
                go_loopg [71] ss.length (fun gg v wr => ∃ j : Nat, v = .int .i64 j ∧ j ≤ ss.length ∧ ss.length - j ≤ gg ∧ Hid (sortsX T.cls (ss.drop j) = SX) ∧ Hid (Below X4.heap.size X4 wr))
                case atStart => exact ⟨0, rfl, by omega, by omega, HSX, Lib.hid (Below.refl _ _)⟩
                case round =>
                  clear HSX
                  obtain ⟨j, rfl, hj, hgj, HSX, HBj⟩ := hrel
                  have HB5 := Lib.hid (HBX4.out.step HBj.out)
                  by_cases hjl : j < ss.length
                  · have hjz : (j : Int) < (ss.length : Int) := by omega
                    have Hjl := Lib.hid hjl
                    obtain ⟨b2, o2, A2, cp2, rfl, _, q0, hlc2, hC2⟩ := sl_at (HCs.out.below HB5.out.below) j hjl
                    have hx := HSX.out
                    rw [List.drop_eq_getElem_cons hjl, sortsX] at hx
                    have hss2 := HSm.out.2.2.2 _ (List.getElem_mem hjl)
                    generalize ss[j]'hjl = s at q0 hlc2 hC2 hx hss2
                    have HSs := Lib.hid (HSo.out wr HB5.out.below _ A2 cp2 s hC2 hlc2 hss2.1 hss2.2)
                    obtain ⟨z0, z1, z2, z3, z4, z5, z6⟩ := thy_cells HB5.out.thy
                    dsimp only at z0 z1 z2 z3 z4 z5 z6
                    generalize sortE T.cls s = X at HSs hx
                    clear hC2 hss2 HSX
                    by_cases hX0 : X = 0
                    · subst hX0
                      rw [if_neg (by decide)] at hx
                      have HSX2 := Lib.hid hx
                      clear hx
                      go_wp2_with fail
                      refine HSs.out.mono ?_
                      rintro e w6 ⟨rfl, hb6⟩
                      have HB6 := Lib.hid (HBj.out.trans (hb6.mono HBj.out.size))
                      clear hb6
                      go_wp2
                      go_roundg (ss.length - (j + 1))
                      case measure => omega
                      case rel => exact ⟨j + 1, by go_num, Hjl.out, Nat.le_refl _, HSX2, HB6⟩
                    · rw [if_pos hX0] at hx
                      subst hx
                      have hE := HE.out
                      rw [if_pos hX0] at hE
                      subst hE
                      obtain rfl : X = Rz := (if_pos hX0).symm.trans HRz.out
                      have gX : (X != 0) = true := bne_iff_ne.2 hX0
                      clear hX0 HE HRz
                      go_wp2_with fail
                      refine HSs.out.mono ?_
                      rintro e w6 ⟨rfl, hb6⟩
                      have HB6 := Lib.hid (HB5.out.step hb6)
                      obtain ⟨v0, v1, _⟩ := HB6.out.cells
                      obtain ⟨hst1, hst2⟩ := HB6.out.stored X
                      have HSt1 := Lib.hid hst1
                      have HSt2 := Lib.hid hst2
                      clear hb6 hst1 hst2
                      go_wp2
                      exact ar_ret0 rfl HSt1.out HSt2.out
                  · have hjz : ¬ (j : Int) < (ss.length : Int) := by omega
                    have hx := HSX.out
                    rw [List.drop_eq_nil_of_le (by omega), sortsX] at hx
                    obtain rfl : (0 : Int) = SX := hx
                    have hE := HE.out
                    rw [if_neg (by decide), ← Htk.out] at hE
                    have HE2 := Lib.hid hE
                    have HX5 := Lib.hid (Rf.box_below HX4.out HBj.out)
                    have HK5 := Lib.hid (Rf.box_below HK4.out HBj.out)
                    obtain ⟨v0, v1, v3⟩ := HB5.out.cells
                    have t2 : wr.cell? ⟨W0.heap.size, 2, none⟩ = some (.slice As ss.length cp) := by simp [World.cell?, HX5.out]
                    have k0 : wr.cell? ⟨w3.heap.size, 0, none⟩ = some (.string at_) := by simp [World.cell?, HK5.out]
                    have k1 : wr.cell? ⟨w3.heap.size, 1, none⟩ = some (.string ac) := by simp [World.cell?, HK5.out]
                    obtain ⟨w9, hup, hm9, hc9⟩ := arity_law.push (mt := 100) Tryz.underlying100 (v := .slice As ss.length cp) HB5.out.map HO.out.keys ⟨at_, ac, rfl⟩ Hf2.out
                    have HB9 := Lib.hid (HB5.out.put hc9 hm9 hmbl)
                    have HO9 := Lib.hid (show ArOk S w (T.ars.take (k + 1)) (ps ++ [(.agg #[.string at_, .string ac], .slice As ss.length cp)]) by rw [Hts.out]; exact ArOk.snoc rfl ⟨As, cp, rfl, hlc, HCs.out⟩ HO.out)
                    clear hE HE HSX hm9 hc9
                    go_wp2
                    go_roundg (T.ars.length - (k + 1))
                    case measure => omega
                    case rel => exact ⟨k + 1, _, by go_num, Hlt.out, Nat.le_refl _, HE2, HO9, HB9⟩
              · rw [if_pos hsn] at hE
                subst hE
                have hsz2 : ((ss.length : Int) != n) = true := by simp [hsn]
                obtain rfl : (5 : Int) = Rz := (if_pos (by decide)).symm.trans HRz.out
                obtain ⟨hst1, hst2⟩ := HBX4.out.stored 5
                have HSt1 := Lib.hid hst1
                have HSt2 := Lib.hid hst2
                clear hsn hst1 hst2 HRz
                go_wp2
                exact ar_ret0 rfl HSt1.out HSt2.out
            · unfold keyV at hf2
              rw [hf2] at hlook
              have hlook2 : Sem.run Tryz.prog (Instr.lookup 100 (.map (some (w.heap.size + 2))) (.agg #[.string at_, .string ac]) true) X4 = .ok (.tuple #[.slice Aq bq.2.2.length cq, .bool true]) X4 := hlook
              rw [hf1] at hE
              obtain rfl : (10 : Int) = E1 := hE
              obtain rfl : (10 : Int) = Rz := (if_pos (by decide)).symm.trans HRz.out
              obtain ⟨hst1, hst2⟩ := HBX4.out.stored 10
              have HSt1 := Lib.hid hst1
              have HSt2 := Lib.hid hst2
              clear hlook hf1 hf2 hst1 hst2 HRz
              go_wp2
              exact ar_ret0 rfl HSt1.out HSt2.out
      · have hltz : ¬ (k : Int) < (T.ars.length : Int) := by omega
        have hE := HE.out
        rw [List.drop_eq_nil_of_le (by omega), arE] at hE
        obtain rfl : (0 : Int) = E1 := hE
        have HFnd := Lib.hid (are_find HA0.out)
        have hO := HO.out
        rw [List.take_of_length_le (by omega)] at hO
        have HOf := Lib.hid hO
        have HRz2 := Lib.hid (show (if T.ars.all (regB T.cls T.ars) then 0 else 31) = Rz from (if_neg (by decide)).symm.trans HRz.out)
        obtain ⟨y0, y1, y2, y3, y4, y5, y6⟩ := thy_cells HB.out.thy
        dsimp only at y0 y1 y2 y3 y4 y5 y6
        clear hO HE HRz
        obtain ⟨k0, hk0⟩ : ∃ k0, k0 = k := ⟨_, rfl⟩
        subst hk0
        go_wp2
        refine wp_loop_ghost_k (fun gg a W => ∃ (k : Nat) (Ds : List Nat) (u17 u91 u92 u93 u94 u95 u96 u97 u127 : Value), a = { tmps := #[Value.agg #[Value.string nm, Value.slice a1 T.cls.length c1, Value.slice a2 T.tys.length c2, Value.slice a3 T.ars.length c3, Value.slice a4 n4 c4, Value.slice a5 n5 c5, Value.slice a6 n6 c6], Value.map (some mb), Value.pointer (some ⟨w.heap.size, 0, none⟩), undef, Value.pointer (some ⟨w.heap.size + 1, 0, none⟩), Value.pointer (some ⟨w.heap.size + 1 + 1 + 1, 0, none⟩), undef, u7, u8, u9, u10, u11, u12, undef, u14, u15, undef, u17, undef, undef, undef, undef, undef, Value.pointer (some ⟨w.heap.size, 3, none⟩), Value.slice a3 T.ars.length c3, Value.int .i64 T.ars.length, Value.bool false, Value.map (some (w.heap.size + 1 + 1)), Value.pointer (some ⟨w.heap.size, 3, none⟩), Value.slice a3 T.ars.length c3, Value.int .i64 T.ars.length, Value.int .i64 k0, Value.bool false, u33, u34, u35, u36, u37, u38, u39, u40, u41, u42, u43, u44, u45, u46, u47, u48, u49, u50, u51, u52, u53, u54, u55, u56, u57, u58, u59, u60, u61, u62, u63, u64, u65, u66, u67, u68, u69, u70, u71, u72, u73, u74, u75, u76, u77, u78, u79, u80, u81, u82, u83, u84, u85, u86, Value.pointer (some ⟨w.heap.size, 3, none⟩), Value.slice a3 T.ars.length c3, Value.int .i64 T.ars.length, Value.int .i64 k, u91, u92, u93, u94, u95, u96, u97, undef, undef, undef, undef, undef, undef, undef, undef, undef, undef, undef, undef, undef, undef, undef, undef, undef, undef, undef, undef, undef, undef, undef, undef, undef, undef, undef, undef, undef, u127], defers := Ds.map mark } ∧ k ≤ T.ars.length ∧ T.ars.length - k ≤ gg ∧ Hid ((if (T.ars.drop k).all (regB T.cls T.ars) then 0 else 31) = Rz) ∧
          Hid (ArB S ⟨nm, a1, c1, a2, c2, a3, c3, a4, n4, c4, a5, n5, c5, a6, n6, c6⟩ T mb w ps W) ∧ Hid (DsOk w Ds W)) T.ars.length ?start3 ?round3
        case start3 => exact ⟨0, [], _, _, _, _, _, _, _, _, _, rfl, by omega, by omega, HRz2, HB, Lib.hid (DsOk.nil _ _)⟩
        case round3 =>
          clear HRz2 HB y0 y1 y2 y3 y4 y5 y6 hlt4
          rintro gg _ wr ⟨k, Ds, u17, u91, u92, u93, u94, u95, u96, u97, u127, rfl, hk, hg, HR, HB, HD⟩ J K hJ hK
          obtain ⟨y0, y1, y2, y3, y4, y5, y6⟩ := thy_cells HB.out.thy
          dsimp only at y0 y1 y2 y3 y4 y5 y6
          by_cases hlt : k < T.ars.length
          · have hltz : (k : Int) < (T.ars.length : Int) := by omega
            have Hlt := Lib.hid hlt
            have hR := HR.out
            rw [List.drop_eq_getElem_cons hlt, List.all_cons] at hR
            have HAb := Lib.hid (fun W c => above_calls ⟨nm, a1, c1, a2, c2, a3, c3, a4, n4, c4, a5, n5, c5, a6, n6, c6⟩ T c W)
            unfold thyV thyC at HAb
            dsimp only at HAb
            obtain ⟨b, o, As, cp, rfl, hbw, qw0, qw1, qw2, hlc, hCs⟩ := ar_at HC.out k hlt
            have hbb := HB.out.below
            have q0 := (hbb.cell (p := ⟨b, o + k * 3, none⟩) hbw).trans qw0
            have q1 := (hbb.cell (p := ⟨b, o + k * 3 + 1, none⟩) hbw).trans qw1
            have q2 := (hbb.cell (p := ⟨b, o + k * 3 + 2, none⟩) hbw).trans qw2
            have hsm := HArs.out _ (List.getElem_mem hlt)
            have hfa := HFnd.out _ (List.getElem_mem hlt)
            generalize T.ars[k]'hlt = a at hR qw0 qw1 qw2 hlc hCs q0 q1 q2 hsm hfa
            obtain ⟨at_, ac, ss⟩ := a
            dsimp only at hR qw0 qw1 qw2 hlc hCs q0 q1 q2 hsm hfa
            have HSm := Lib.hid hsm
            have HCs := Lib.hid hCs
            have HFa := Lib.hid hfa
            have hssl : ss.length ≤ 9223372036854775807 := hCs.len
            have HR := Lib.hid hR
            obtain ⟨X1, hX1⟩ : ∃ X1, wr.alloc (.cells #[.string at_, .string ac, .slice As ss.length cp] 50) = X1 := ⟨_, rfl⟩
            have hx1 : Below wr.heap.size wr X1 := by rw [← hX1]; exact (Below.refl _ _).alloc (Nat.le_refl _) _
            have HBX1 := Lib.hid (HB.out.step hx1)
            have HX1 := Lib.hid (show X1.heap[wr.heap.size]? = some (.cells #[.string at_, .string ac, .slice As ss.length cp] 50 (0, 0)) by rw [← hX1]; exact World.alloc_heap_new wr _)
            have x1 : X1.cell? ⟨wr.heap.size, 1, none⟩ = some (.string ac) := by simp [World.cell?, HX1.out]
            obtain ⟨z0, z1, z2, z3, z4, z5, z6⟩ := thy_cells HBX1.out.thy
            dsimp only at z0 z1 z2 z3 z4 z5 z6
            clear hR hsm hCs hfa hx1 qw0 qw1 qw2 hbw hbb
            go_wp2_with fail
            refine (HAb.out _ _).mono ?_
            rintro e V ⟨rfl, hV⟩
            go_wp2
            have hs1 : X1.heap.size = wr.heap.size + 1 := by rw [← hX1]; simp
            have hV1 : Below X1.heap.size X1 V := by rw [← hV]; exact ((Below.refl _ _).alloc (Nat.le_refl _) _).alloc (by simp) _
            have hVs : V.heap.size = wr.heap.size + 3 := by rw [← hV, World.size_alloc, World.size_alloc, hs1]
            have HBV := Lib.hid (HBX1.out.step hV1)
            have HXV := Lib.hid (Rf.box_below HX1.out hV1)
            have hdV := ((HD.out.chg (by rw [← hX1]; exact Chg.alloc (fun _ => False) _ _ : Chg (fun _ => False) wr X1) (fun k e => e.elim)).chg (Chg.of_fresh (T := fun _ => False) hV1) (fun k e => e.elim))
            have HDV := Lib.hid hdV
            have hAb : AbT (fun k => S k ∧ k < w.heap.size) ⟨nm, a1, c1, a2, c2, some ⟨b, o, none⟩, c3, a4, n4, c4, a5, n5, c5, a6, n6, c6⟩ T X1.heap.size (X1.heap.size + 1) ac V := by
              refine ⟨HT.out.bound.below HBV.out.below, ?_, ?_⟩
              · rw [← hV]; exact (Below.heap_alloc _ _ _ (by simp)).trans (World.alloc_heap_new X1 _)
              · rw [← hV]; exact cells_at _ _ _ _ 0 (by simp)
            have hI0 : RgI w V (okC T.cls T.ars at_ ss) [] (fun k => k = w.heap.size + 1) V := ⟨fun k => Iff.rfl, Chg.refl _ _, rfl⟩
            have hws := HB.out.lt
            have hac := HSm.out.2.1
            clear hV hX1 x1 z0 z1 z2 z3 z4 z5 z6 y0 y1 y2 y3 y4 y5 y6 q0 q1 q2 HBX1 HX1 hV1 HD HB HAb hdV
            refine (wpIn_wide (n := 0)).1 ?_
            refine wp_rangeFunc (gf := 83) (lb := #[.pointer (some ⟨X1.heap.size + 1, 0, none⟩), .pointer (some ⟨X1.heap.size, 0, none⟩)]) rfl (enters_of Tryz.func83 (by kernel_rfl) rfl)
              (fun W1 hc1 _ => above_iter (fun k => S k ∧ k < w.heap.size) _ T X1.heap.size (X1.heap.size + 1) ac W1 (hAb.chg hc1 (fun _ _ _ e => e) (fun e => e) (fun e => e)) (fun k hk => by have := hc1.size; have := hk.2; omega) hac hfew)
              ⟨by omega, by omega, fun e => by have := e.2; omega⟩ (fun x => rfl) (fun k => k = w.heap.size + 1) (fun k hk => ⟨⟨by omega, by omega, fun e => by have := e.2; omega⟩, by omega⟩)
              (RgI w V (okC T.cls T.ars at_ ss)) (RgX w V (okC T.cls T.ars at_ ss))
              (fun pre M A B h hc => h.chg hc) (fun c pre M A B h hc => h.chg hc) (fun pre M A h k hk => by have := (h.1 k).1 hk; have := h.2.1.size; omega) hI0
              (fun x act1 _ => ∃ u91 u92 u93 u94 u95 u96 u97 : Value, act1 = { tmps := #[Value.agg #[Value.string nm, Value.slice a1 T.cls.length c1, Value.slice a2 T.tys.length c2, Value.slice (some ⟨b, o, none⟩) T.ars.length c3, Value.slice a4 n4 c4, Value.slice a5 n5 c5, Value.slice a6 n6 c6], Value.map (some mb), Value.pointer (some ⟨w.heap.size, 0, none⟩), undef, Value.pointer (some ⟨w.heap.size + 1, 0, none⟩), Value.pointer (some ⟨w.heap.size + 1 + 1 + 1, 0, none⟩), undef, u7, u8, u9, u10, u11, u12, undef, u14, u15, undef, Value.pointer (some ⟨wr.heap.size, 0, none⟩), Value.string x, undef, undef, undef, undef, Value.pointer (some ⟨w.heap.size, 3, none⟩), Value.slice (some ⟨b, o, none⟩) T.ars.length c3, Value.int .i64 T.ars.length, Value.bool false, Value.map (some (w.heap.size + 1 + 1)), Value.pointer (some ⟨w.heap.size, 3, none⟩), Value.slice (some ⟨b, o, none⟩) T.ars.length c3, Value.int .i64 T.ars.length, Value.int .i64 k0, Value.bool false, u33, u34, u35, u36, u37, u38, u39, u40, u41, u42, u43, u44, u45, u46, u47, u48, u49, u50, u51, u52, u53, u54, u55, u56, u57, u58, u59, u60, u61, u62, u63, u64, u65, u66, u67, u68, u69, u70, u71, u72, u73, u74, u75, u76, u77, u78, u79, u80, u81, u82, u83, u84, u85, u86, Value.pointer (some ⟨w.heap.size, 3, none⟩), Value.slice (some ⟨b, o, none⟩) T.ars.length c3, Value.int .i64 T.ars.length, Value.int .i64 k, u91, u92, u93, u94, u95, u96, u97, Value.string x, undef, undef, undef, undef, undef, undef, undef, undef, undef, undef, undef, undef, undef, undef, undef, undef, undef, undef, undef, undef, undef, undef, undef, undef, undef, undef, undef, undef, u127], defers := [] })
              (fun _ _ _ _ h _ => h) ?assign ?body ?done ?stop ?panic
            case assign =>
              intro l x W hW
              gi_wp2
              exact Chg.refl _ _
            case panic =>
              rintro D chain pre M W hD h _ _
              exact h.elim
            case stop =>
              rintro D c pre M W hD hp ⟨rfl, hM, h31, hCh, hall⟩ hKd
              have hR := HR.out
              rw [regB_ok, all_false_of_pre hp hall, Bool.false_and, if_neg (by decide)] at hR
              subst hR
              have hB := HBV.out.below.trans (hCh.below (n := w.heap.size) HBV.out.below.size (fun k e => by rcases e with e | e <;> omega))
              have hds := (HDV.out.chg hCh (fun k e => by rcases e with e | e <;> omega)).cons hKd (fun e => by have := HDV.out.lt e; omega) (by omega)
              have H31 := Lib.hid h31
              have HB' := Lib.hid hB
              have HDs := Lib.hid hds
              clear hAb hI0 hCh hall hp h31 hM hds hB hKd
              refine (wpIn_wide (n := 0)).2 ?_
              go_wp2
              exact ar_ret (D :: Ds) rfl H31.out HDs.out.1 HDs.out.2.1 HB'.out (fun E hE => by have := HDs.out.2.2 E hE; omega)
            case done =>
              rintro D xs M W hD rfl ⟨hM, hCh, hall⟩ hKd
              have hR := HR.out
              rw [regB_ok, hall, Bool.true_and] at hR
              have HR2 := Lib.hid hR
              have HBW := Lib.hid (HBV.out.step (hCh.below (Nat.le_refl _) (fun k h => h)))
              have HDs := Lib.hid ((HDV.out.chg hCh (fun k e => .inr e)).cons hKd (fun e => by have := HDV.out.lt e; omega) (by omega))
              clear hAb hI0 hCh hall hM hR hKd
              go_wp2
              refine Handed.intro (T.ars.length - (k + 1)) (by have := Hlt.out; omega) (hJ _ _ _ ⟨k + 1, D :: Ds, _, _, _, _, _, _, _, _, _, rfl, Hlt.out, Nat.le_refl _, HR2, HBW, HDs⟩)
            case body =>
              repeat (rename_i hq; clear hq)
              clear hK hJ K J
              repeat (rename_i hq; clear hq)
              rintro l pre M x act1 sz W ⟨hM, hCh, hpre⟩ hMs hlen ⟨u91, u92, u93, u94, u95, u96, u97, rfl⟩ hsz hsW
              have HBW := Lib.hid (HBV.out.step (hCh.below (Nat.le_refl _) (fun k h => h)))
              have hXW := hCh.obj HXV.out (by omega)
              obtain ⟨_, _, s3⟩ := HBW.out.cells
              have t0 : W.cell? ⟨wr.heap.size, 0, none⟩ = some (.string at_) := by simp [World.cell?, hXW]
              have HXW := Lib.hid hXW
              have hlook := arity_law.lookup (mt := 100) Tryz.underlying100 HBW.out.map HOf.out.keys ⟨at_, x, rfl⟩ (zero_sorts W) true
              rw [if_pos rfl] at hlook
              have HM := Lib.hid hM
              have HMs := Lib.hid hMs
              have HCh := Lib.hid hCh
              have HPre := Lib.hid hpre
              clear hAb hI0 hXW hM hCh hpre hMs
              rcases HOf.out.find at_ x with ⟨hf1, hf2⟩ | ⟨bq, Aq, cq, hf1, hf2, hq3, hq4⟩
              · unfold keyV at hf2
                rw [hf2] at hlook
                have hlook2 : Sem.run Tryz.prog (Instr.lookup 100 (.map (some (w.heap.size + 2))) (.agg #[.string at_, .string x]) true) W = .ok (.tuple #[.slice none 0 0, .bool false]) W := hlook
                have hok : okC T.cls T.ars at_ ss x = false := by unfold okC; rw [hf1]
                have HOk := Lib.hid hok
                obtain ⟨r0, r1, _⟩ := HBW.out.cells
                have HSt1 := Lib.hid (HBW.out.stored 31).1
                clear hlook hf1 hf2 hok
                gi_wp2
                exact ⟨M, ⟨rfl, HM.out, HSt1.out, (HCh.out.mono (fun k e => .inr e)).trans (Chg.setCell (.inl rfl) _), by rw [all_snoc _ _ _ HPre.out]; exact HOk.out⟩, Chg.setCell (.inl ((HM.out _).2 rfl)) _, fun k hk => .inl hk⟩
              · unfold keyV at hf2
                rw [hf2] at hlook
                obtain ⟨bt_, bc_, bs⟩ := bq
                have hlook2 : Sem.run Tryz.prog (Instr.lookup 100 (.map (some (w.heap.size + 2))) (.agg #[.string at_, .string x]) true) W = .ok (.tuple #[.slice Aq bs.length cq, .bool true]) W := hlook
                dsimp only at hq3 hq4
                have hbl : bs.length = ss.length := HFa.out x _ hf1
                have hok : zipW T.cls ss bs = okC T.cls T.ars at_ ss x := by unfold okC; rw [hf1]
                have HOK := Lib.hid (show zipW T.cls (ss.drop 0) (bs.drop 0) = okC T.cls T.ars at_ ss x from hok)
                have HPx := Lib.hid (all_snoc (okC T.cls T.ars at_ ss) pre x HPre.out)
                generalize okC T.cls T.ars at_ ss x = OK at HOK HPx
                have Hbl := Lib.hid hbl
                have HCq := Lib.hid hq4
                have t2 : W.cell? ⟨wr.heap.size, 2, none⟩ = some (.slice As ss.length cp) := by simp [World.cell?, HXW.out]
                clear hlook hf1 hf2 hok hbl hq4 HPre
                gi_wp2
                clear hlook2
                obtain ⟨W0, hW0⟩ : ∃ W0, W0 = wr := ⟨_, rfl⟩
                subst hW0
                gi_loopg [113] ss.length (fun gg v W2 => ∃ j : Nat, v = .int .i64 j ∧ j ≤ ss.length ∧ ss.length - j ≤ gg ∧ Hid (zipW T.cls (ss.drop j) (bs.drop j) = OK) ∧ Hid (Below W.heap.size W W2))
                case atStart => exact ⟨0, rfl, by omega, by omega, HOK, Lib.hid (Below.refl _ _)⟩
                case round =>
                  clear HOK s3 t0 t2
                  obtain ⟨j, rfl, hj, hgj, HOK, HBj⟩ := hrel
                  have HB5 := Lib.hid (HBW.out.step HBj.out)
                  by_cases hjl : j < ss.length
                  · have hjz : (j : Int) < (ss.length : Int) := by omega
                    have hjz2 : (j : Int) < (bs.length : Int) := by have := Hbl.out; omega
                    have hjl2 : j < bs.length := by omega
                    have Hjl := Lib.hid hjl
                    obtain ⟨b2, o2, A2, cp2, rfl, _, p0, hlc2, hC2⟩ := sl_at (HCs.out.below HB5.out.below) j hjl
                    obtain ⟨b3, o3, A3, cp3, rfl, _, p1, hlc3, hC3⟩ := sl_at (HCq.out.below HB5.out.below) j hjl2
                    have hx := HOK.out
                    rw [List.drop_eq_getElem_cons hjl, List.drop_eq_getElem_cons hjl2, zipW] at hx
                    have hss2 := HSm.out.2.2.2 _ (List.getElem_mem hjl)
                    generalize ss[j]'hjl = s at p0 hlc2 hC2 hx hss2
                    generalize bs[j]'hjl2 = s2 at p1 hlc3 hC3 hx
                    have HWi := Lib.hid (fun (W' : World) (hb : Below wr.heap.size wr W') => within_calls S S S _ T A2 A3 cp2 cp3 s s2 W' (HT.out.below (HB5.out.below.trans (hb.mono HB5.out.below.size))) (hC2.below hb) hlc2 (hC3.below hb) hlc3 hss2.2 hfew)
                    obtain ⟨z0, z1, z2, z3, z4, z5, z6⟩ := thy_cells HB5.out.thy
                    dsimp only at z0 z1 z2 z3 z4 z5 z6
                    unfold thyV thyC at HWi
                    dsimp only at HWi
                    have hmix : (Tryz.prog).follows .mixedOrders = true := by kernel_rfl
                    generalize withinB T.cls s s2 = X at HWi hx
                    clear hC2 hC3 hss2 HOK
                    cases X with
                    | true =>
                      rw [Bool.true_and] at hx
                      have HOK2 := Lib.hid hx
                      clear hx
                      gi_wp2
                      gi_region_with_o ((with_reducible refine And.intro ?_ (And.intro ?_ ?_)); exact trivial; rfl; refine (CallsIn.inRound l (callsIn_wide.2 (HWi.out _ (Rf.below_drew1 (Below.refl _ _))))).mono ?_; rintro e w6 ⟨rfl, hb6⟩; have hb6 := Rf.undrew hb6; have HB6 := Lib.hid (HBj.out.trans (hb6.mono HBj.out.size)); clear hb6; dsimp only)
                      all_goals
                        gi_wp2
                        gi_roundg (ss.length - (j + 1))
                        case measure => omega
                        case rel => exact ⟨j + 1, by go_num, Hjl.out, Nat.le_refl _, HOK2, HB6⟩
                    | false =>
                      rw [Bool.false_and] at hx
                      have HOK2 := Lib.hid hx
                      clear hx
                      gi_wp2
                      gi_region_with_o ((with_reducible refine And.intro ?_ (And.intro ?_ ?_)); exact trivial; rfl; refine (CallsIn.inRound l (callsIn_wide.2 (HWi.out _ (Rf.below_drew1 (Below.refl _ _))))).mono ?_; rintro e w6 ⟨rfl, hb6⟩; have hb6 := Rf.undrew hb6; have HB6 := Lib.hid (HBj.out.trans (hb6.mono HBj.out.size)); have HBA6 := Lib.hid (HBW.out.step HB6.out); obtain ⟨r0, r1, _⟩ := HBA6.out.cells; clear hb6; dsimp only)
                      all_goals
                        have HSt1 := Lib.hid (HBA6.out.stored 31).1
                        gi_wp2
                        exact ⟨M, ⟨rfl, HM.out, HSt1.out, (HCh.out.mono (fun k e => .inr e)).trans ((Chg.of_fresh HB6.out).trans (Chg.setCell (.inl rfl) _)), HPx.out.trans HOK2.out.symm⟩, (Chg.of_fresh HB6.out).trans (Chg.setCell (.inl ((HM.out _).2 rfl)) _), fun k hk => .inl hk⟩
                  · have hjz : ¬ (j : Int) < (ss.length : Int) := by omega
                    have hx := HOK.out
                    rw [List.drop_eq_nil_of_le (by omega), zipW] at hx
                    have HPy := Lib.hid (HPx.out.trans hx.symm)
                    clear hx HOK
                    gi_wp2
                    exact ⟨M, ⟨HM.out, HCh.out.trans (Chg.of_fresh HBj.out), HPy.out⟩, Chg.of_fresh HBj.out, fun k hk => .inl hk⟩
          · have hltz : ¬ (k : Int) < (T.ars.length : Int) := by omega
            have hR := HR.out
            rw [List.drop_eq_nil_of_le (by omega), List.all_nil, if_pos rfl] at hR
            subst hR
            obtain ⟨r0, r1, _⟩ := HB.out.cells
            obtain ⟨hst1, hst2⟩ := HB.out.stored 0
            have HSt1 := Lib.hid hst1
            have HSt2 := Lib.hid hst2
            have HDs := Lib.hid (HD.out.chg (W' := wr.setCell ⟨w.heap.size + 1, 0, none⟩ (.int .i64 0)) (Chg.setCell (T := fun k => k = w.heap.size + 1) rfl _) (fun k e => by omega))
            clear HR hst1 hst2
            go_wp2
            exact ar_ret Ds rfl HSt1.out HDs.out.1 HDs.out.2.1 HSt2.out (fun E hE => by have := HDs.out.2.2 E hE; omega)
end Go.Proofs.YthfomoigaoffgaaGreat.Ch
