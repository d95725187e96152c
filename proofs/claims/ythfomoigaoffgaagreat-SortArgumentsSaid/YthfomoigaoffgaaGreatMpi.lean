/- Maps, entry by entry, whatever their keys: lookup, and the store of an entry.  It names no program. -/
import Derived.Test.YthfomoigaoffgaaGreatK
import Derived.Maps.Own
namespace Go.Proofs.YthfomoigaoffgaaGreat.K
set_option linter.unusedSimpArgs false
set_option linter.unusedVariables false
open Go Go.RowKit

/-- block r is a map with these entries, in the order in which they came -/
def MapIs (w : World) (r : Nat) (ps : List (Value × Value)) : Prop := ∃ es clock, w.heap[r]? = some (.map es clock) ∧ es.toList.map (fun e => (e.key, e.val)) = ps
theorem MapIs.lt {w : World} {r : Nat} {ps : List (Value × Value)} (h : MapIs w r ps) : r < w.heap.size := by
  obtain ⟨es, clock, h, _⟩ := h
  exact (Array.getElem?_eq_some_iff.1 h).1
theorem MapIs.same {w w' : World} {r : Nat} {ps : List (Value × Value)} (h : MapIs w r ps) (hb : w'.heap[r]? = w.heap[r]?) : MapIs w' r ps := by
  obtain ⟨es, clock, h1, h2⟩ := h
  exact ⟨es, clock, hb.trans h1, h2⟩
theorem MapIs.chg {T : Nat → Prop} {w w' : World} {r : Nat} {ps : List (Value × Value)} (h : MapIs w r ps) (hc : Chg T w w') (hn : ¬ T r) : MapIs w' r ps := h.same (hc.block r h.lt hn)
theorem MapIs.below {w w' : World} {r : Nat} {ps : List (Value × Value)} (h : MapIs w r ps) (hb : Below w.heap.size w w') : MapIs w' r ps := h.same (hb.block r h.lt)
theorem MapIs.made (w : World) : MapIs (w.alloc (.map #[] 0)) w.heap.size [] := ⟨#[], 0, World.alloc_heap_new w _, rfl⟩

/-- where a key stands first, and what stands there -/
def findV (eqb : Value → Value → Bool) (k : Value) : List (Value × Value) → Nat → Option (Nat × Value)
  | [], _ => none
  | e :: es, i => if eqb k e.1 then some (i, e.2) else findV eqb k es (i + 1)
def assocV (eqb : Value → Value → Bool) (k : Value) (ps : List (Value × Value)) : Option Value := (ps.find? (fun e => eqb k e.1)).map (·.2)
theorem findV_assoc (eqb : Value → Value → Bool) (k : Value) : ∀ (ps : List (Value × Value)) (i : Nat), (findV eqb k ps i).map (·.2) = assocV eqb k ps
  | [], _ => rfl
  | e :: es, i => by
    unfold findV assocV
    rw [List.find?_cons]
    cases h : eqb k e.1 with
    | true => rfl
    | false => exact findV_assoc eqb k es (i + 1)
/-- what a kind of keys must give -/
structure KeyLaw (P : Program) (kt : TypeId) (ok : Value → Prop) (eqb : Value → Value → Bool) : Prop where
  check : ∀ (w : World) (b : Bool) (k : Value), ok k → (Instr.checkKey b 10000 kt k).run P w = .ok () w
  find : ∀ (w : World) (k : Value) (es : List MapEntry), ok k → (∀ e ∈ es, ok e.key) → (Instr.findKey kt k es).run P w = .ok (findV eqb k (es.map (fun e => (e.key, e.val))) 0) w
section
variable {P : Program} {kt et mt : TypeId} {ok : Value → Prop} {eqb : Value → Value → Bool}
theorem KeyLaw.lookup (L : KeyLaw P kt ok eqb) (hm : P.underlying mt = some (.map kt et)) {w : World} {r : Nat} {ps : List (Value × Value)} (h : MapIs w r ps) (hok : ∀ e ∈ ps, ok e.1) {k : Value} (hk : ok k) {z : Value} (hz : (zeroValue et).run P w = .ok z w) (c : Bool) :
    (Instr.lookup mt (.map (some r)) k c).run P w = .ok (if c then .tuple #[(assocV eqb k ps).getD z, .bool (assocV eqb k ps).isSome] else (assocV eqb k ps).getD z) w := by
  obtain ⟨es, clock, h1, rfl⟩ := h
  have hf := L.find w k es.toList hk (fun e he => hok (e.key, e.val) (List.mem_map_of_mem he))
  have hc := L.check w es.isEmpty k hk
  have hg : (getObj r).run P w = .ok (.map es clock) w := by simp [getObj, Sem.run, h1]
  rw [← findV_assoc eqb k _ 0]
  generalize findV eqb k (es.toList.map (fun e => (e.key, e.val))) 0 = F at hf
  have key : (Instr.lookup mt (.map (some r)) k c).run P w = (match F with
      | some (_, v) => Result.ok (if c then .tuple #[v, .bool true] else v) w
      | none => Result.ok (if c then .tuple #[z, .bool false] else z) w) := by
    cases F with
    | none => simp [Instr.lookup, Sem.run_bind, run_underlying hm, hg, hc, hf, hz, Result.andThen]
    | some q => obtain ⟨i, v⟩ := q; simp [Instr.lookup, Sem.run_bind, run_underlying hm, hg, hc, hf, Result.andThen]
  rw [key]
  cases F with
  | none => rfl
  | some q => rfl
theorem KeyLaw.push (L : KeyLaw P kt ok eqb) (hm : P.underlying mt = some (.map kt et)) {w : World} {r : Nat} {ps : List (Value × Value)} (h : MapIs w r ps) (hok : ∀ e ∈ ps, ok e.1) {k v : Value} (hk : ok k) (hn : assocV eqb k ps = none) :
    ∃ w', (Instr.mapUpdate mt (.map (some r)) k v).run P w = .ok () w' ∧ MapIs w' r (ps ++ [(k, v)]) ∧ Chg (fun b => b = r) w w' := by
  obtain ⟨es, clock, h1, rfl⟩ := h
  have hf := L.find w k es.toList hk (fun e he => hok (e.key, e.val) (List.mem_map_of_mem he))
  have hc := L.check w false k hk
  have hg : (getObj r).run P w = .ok (.map es clock) w := by simp [getObj, Sem.run, h1]
  have hfn : findV eqb k (es.toList.map (fun e => (e.key, e.val))) 0 = none := by
    have := findV_assoc eqb k (es.toList.map (fun e => (e.key, e.val))) 0
    rw [hn] at this
    cases hq : findV eqb k (es.toList.map (fun e => (e.key, e.val))) 0 with
    | none => rfl
    | some q => rw [hq] at this; cases this
  rw [hfn] at hf
  have hlt := (Array.getElem?_eq_some_iff.1 h1).1
  have hs : (setObj r (.map (es.push { key := k, val := v, born := clock }) (clock + 1))).run P w = .ok () (w.putObj r (.map (es.push { key := k, val := v, born := clock }) (clock + 1))) := by
    simp [setObj, Sem.run, h1, World.putObj]
  refine ⟨w.putObj r (.map (es.push { key := k, val := v, born := clock }) (clock + 1)), ?_, ⟨_, _, World.putObj_heap_same hlt, by simp⟩, Chg.putObj (T := fun b => b = r) rfl _⟩
  simp [Instr.mapUpdate, Sem.run_bind, run_underlying hm, hg, hc, hf, hs, Result.andThen]
end

/-! ### keys that are strings -/
def eqS : Value → Value → Bool
  | .string a, .string b => a == b
  | _, _ => false
def isS (v : Value) : Prop := ∃ s : ByteArray, v = .string s
theorem string_law {P : Program} {kt : TypeId} (ht : P.underlying kt = some .string) : KeyLaw P kt isS eqS where
  check w b k hk := by
    obtain ⟨s, rfl⟩ := hk
    unfold Instr.checkKey
    simp [Sem.run_bind, run_underlying ht, Result.andThen]
  find w k es hk hes := by
    obtain ⟨s, rfl⟩ := hk
    have key : ∀ (es : List MapEntry) (i : Nat), (∀ e ∈ es, isS e.key) → Instr.findNow .string (.string s) es i = some (findV eqS (.string s) (es.map (fun e => (e.key, e.val))) i) := by
      intro es
      induction es with
      | nil => intro i _; rfl
      | cons e r ih =>
        intro i h
        obtain ⟨t, ht⟩ := h e (List.mem_cons_self ..)
        have ih := ih (i + 1) (fun x hx => h x (List.mem_cons_of_mem _ hx))
        unfold Instr.findNow
        rw [ht]
        simp only [Instr.sameNow, List.map_cons, findV, ht, eqS]
        by_cases hq : (s == t) = true
        · simp only [hq, if_true]
        · have hq : (s == t) = false := by simpa using hq
          simp only [hq]
          exact ih
    simp [Instr.findKey, Sem.run_bind, run_underlying ht, key es 0 hes, Result.andThen]

/-! ### keys that are two strings -/
def strAt (v : Value) (i : Nat) : ByteArray := match v with
  | .agg cs => match cs[i]? with
    | some (.string s) => s
    | _ => ByteArray.empty
  | _ => ByteArray.empty
def eqS2 (x y : Value) : Bool := strAt x 0 == strAt y 0 && strAt x 1 == strAt y 1
theorem eqS2_mk (a b c d : ByteArray) : eqS2 (.agg #[.string a, .string b]) (.agg #[.string c, .string d]) = (a == c && b == d) := rfl
def isS2 (v : Value) : Prop := ∃ a b : ByteArray, v = .agg #[.string a, .string b]
theorem struct2_law {P : Program} {kt : TypeId} {fs : Array Field} (ht : P.underlying kt = some (.struct fs))
    (hc : ∀ (w : World) (b : Bool) (x y : ByteArray), (Instr.checkKey b 10000 kt (.agg #[.string x, .string y])).run P w = .ok () w)
    (he : ∀ (w : World) (a b c d : ByteArray), (Op.equal kt (.agg #[.string a, .string b]) (.agg #[.string c, .string d])).run P w = .ok (a == c && b == d) w) : KeyLaw P kt isS2 eqS2 where
  check w b k hk := by
    obtain ⟨x, y, rfl⟩ := hk
    exact hc w b x y
  find w k es hk hes := by
    obtain ⟨x, y, rfl⟩ := hk
    have key : ∀ (es : List MapEntry) (i : Nat), (∀ e ∈ es, isS2 e.key) → (Instr.findAsking kt (.agg #[.string x, .string y]) es i).run P w = .ok (findV eqS2 (.agg #[.string x, .string y]) (es.map (fun e => (e.key, e.val))) i) w := by
      intro es
      induction es with
      | nil => intro i _; rfl
      | cons e r ih =>
        intro i h
        obtain ⟨c, d, hk2⟩ := h e (List.mem_cons_self ..)
        have ih := ih (i + 1) (fun x hx => h x (List.mem_cons_of_mem _ hx))
        have hq := he w x y c d
        rw [List.map_cons, findV]
        rw [hk2, eqS2_mk]
        by_cases hb : (x == c && y == d) = true
        · rw [hb] at hq
          simp [Instr.findAsking, Sem.run_bind, hk2, hq, hb, Result.andThen]
        · have hb : (x == c && y == d) = false := by simpa using hb
          rw [hb] at hq
          simp only [hb]
          simp [Instr.findAsking, Sem.run_bind, hk2, hq, Result.andThen, ih]
    cases es with
    | nil => simp [Instr.findKey, Sem.run_bind, run_underlying ht, Instr.findNow, findV, Result.andThen]
    | cons e r =>
      obtain ⟨c, d, hk2⟩ := hes e (List.mem_cons_self ..)
      have hn : Instr.findNow (.struct fs) (.agg #[.string x, .string y]) (e :: r) 0 = none := by
        unfold Instr.findNow
        rw [hk2]
        rfl
      simp [Instr.findKey, Sem.run_bind, run_underlying ht, hn, key (e :: r) 0 hes, Result.andThen]
end Go.Proofs.YthfomoigaoffgaaGreat.K
namespace Go.Proofs.YthfomoigaoffgaaGreat.K
set_option linter.unusedSimpArgs false
set_option linter.unusedVariables false
open Go Go.RowKit

def eqI : Value → Value → Bool
  | .int _ a, .int _ b => a == b
  | _, _ => false
def isI (v : Value) : Prop := ∃ n : Int, v = .int .i64 n
theorem int_law {P : Program} {kt : TypeId} (ht : P.underlying kt = some (.int .i64)) : KeyLaw P kt isI eqI where
  check w b k hk := by
    obtain ⟨s, rfl⟩ := hk
    unfold Instr.checkKey
    simp [Sem.run_bind, run_underlying ht, Result.andThen]
  find w k es hk hes := by
    obtain ⟨s, rfl⟩ := hk
    have key : ∀ (es : List MapEntry) (i : Nat), (∀ e ∈ es, isI e.key) → Instr.findNow (.int .i64) (.int .i64 s) es i = some (findV eqI (.int .i64 s) (es.map (fun e => (e.key, e.val))) i) := by
      intro es
      induction es with
      | nil => intro i _; rfl
      | cons e r ih =>
        intro i h
        obtain ⟨t, ht⟩ := h e (List.mem_cons_self ..)
        have ih := ih (i + 1) (fun x hx => h x (List.mem_cons_of_mem _ hx))
        unfold Instr.findNow
        rw [ht]
        simp only [Instr.sameNow, List.map_cons, findV, ht, eqI]
        by_cases hq : (s == t) = true
        · simp only [hq, if_true]
        · have hq : (s == t) = false := by simpa using hq
          simp only [hq]
          exact ih
    simp [Instr.findKey, Sem.run_bind, run_underlying ht, key es 0 hes, Result.andThen]
theorem eqI_iff {s t : Int} : eqI (.int .i64 s) (.int .i64 t) = true ↔ s = t := by simp [eqI]
theorem findI {s v : Int} (u : Value) : ∀ (ps : List (Value × Value)) (i : Nat), (∀ e ∈ ps, isI e.1) → ∀ (n : Nat) (o : Value), findV eqI (.int .i64 s) ps i = some (n, o) →
    ∃ j, n = i + j ∧ ps[j]? = some (.int .i64 s, o) ∧ ∀ t : Int, assocV eqI (.int .i64 t) (ps.modify j (fun _ => (.int .i64 s, u))) = if t = s then some u else assocV eqI (.int .i64 t) ps
  | [], _, _, _, _, h => by cases h
  | e :: ps, i, hk, n, o, h => by
    obtain ⟨k, he⟩ := hk e (List.mem_cons_self ..)
    obtain ⟨e1, e2⟩ := e
    dsimp only at he
    subst he
    rw [findV] at h
    by_cases hq : s = k
    · subst hq
      rw [if_pos (eqI_iff.2 rfl)] at h
      cases h
      refine ⟨0, rfl, rfl, fun t => ?_⟩
      rw [List.modify_zero_cons]
      unfold assocV
      rw [List.find?_cons, List.find?_cons]
      by_cases ht : t = s
      · subst ht
        dsimp only
        rw [eqI_iff.2 rfl, if_pos rfl]
        rfl
      · have hf : eqI (.int .i64 t) (.int .i64 s) = false := by simpa [eqI] using ht
        dsimp only
        rw [hf, if_neg ht]
    · rw [if_neg (fun e => hq (eqI_iff.1 e))] at h
      obtain ⟨j, e3, e4, e5⟩ := findI (v := v) u ps (i + 1) (fun x hx => hk x (List.mem_cons_of_mem _ hx)) n o h
      refine ⟨j + 1, by omega, by simpa using e4, fun t => ?_⟩
      have e6 := e5 t
      rw [List.modify_succ_cons]
      unfold assocV at e6 ⊢
      rw [List.find?_cons, List.find?_cons]
      dsimp only
      by_cases ht : t = k
      · subst ht
        rw [eqI_iff.2 rfl, if_neg (fun e => hq e.symm)]
      · have hf : eqI (.int .i64 t) (.int .i64 k) = false := by simpa [eqI] using ht
        rw [hf]
        exact e6
/-- an entry that is there is turned -/
theorem int_turn {P : Program} {kt et mt : TypeId} (ht : P.underlying kt = some (.int .i64)) (hm : P.underlying mt = some (.map kt et)) {w : World} {r : Nat} {ps : List (Value × Value)} (h : MapIs w r ps) (hok : ∀ e ∈ ps, isI e.1) {s : Int} {u o : Value} (ho : assocV eqI (.int .i64 s) ps = some o) :
    ∃ w' ps', (Instr.mapUpdate mt (.map (some r)) (.int .i64 s) u).run P w = .ok () w' ∧ MapIs w' r ps' ∧ Chg (fun b => b = r) w w' ∧ (∀ e ∈ ps', isI e.1) ∧ ∀ t : Int, assocV eqI (.int .i64 t) ps' = if t = s then some u else assocV eqI (.int .i64 t) ps := by
  obtain ⟨es, clock, h1, rfl⟩ := h
  have L := int_law (P := P) ht
  have hf := L.find w (.int .i64 s) es.toList ⟨s, rfl⟩ (fun e he => hok (e.key, e.val) (List.mem_map_of_mem he))
  have hc := L.check w false (.int .i64 s) ⟨s, rfl⟩
  have hg : (getObj r).run P w = .ok (.map es clock) w := by simp [getObj, Sem.run, h1]
  have hfo := findV_assoc eqI (.int .i64 s) (es.toList.map (fun e => (e.key, e.val))) 0
  rw [ho] at hfo
  cases hq : findV eqI (.int .i64 s) (es.toList.map (fun e => (e.key, e.val))) 0 with
  | none => rw [hq] at hfo; cases hfo
  | some q =>
    obtain ⟨n, o'⟩ := q
    rw [hq] at hf
    obtain ⟨j, e1, e2, e3⟩ := findI (v := 0) u _ 0 hok n o' hq
    obtain rfl : n = j := by omega
    have e4 : ∃ e, es[n]? = some e ∧ e.key = .int .i64 s := by
      rw [List.getElem?_map] at e2
      cases he : es.toList[n]? with
      | none => rw [he] at e2; cases e2
      | some e =>
        rw [he] at e2
        simp only [Option.map_some, Option.some.injEq, Prod.mk.injEq] at e2
        exact ⟨e, by rw [← Array.getElem?_toList]; exact he, e2.1⟩
    obtain ⟨e, e5, e6⟩ := e4
    have hks : (Instr.keyThatStays (((es[n]?).map (·.key)).getD (.int .i64 s)) (.int .i64 s)).run P w = .ok (.int .i64 s) w := by
      rw [e5, Option.map_some, Option.getD_some, e6]
      unfold Instr.keyThatStays
      simp [Instr.sameBits]
    have hlt := (Array.getElem?_eq_some_iff.1 h1).1
    have hs : (setObj r (.map (es.modify n fun e => { e with key := .int .i64 s, val := u }) clock)).run P w = .ok () (w.putObj r (.map (es.modify n fun e => { e with key := .int .i64 s, val := u }) clock)) := by
      simp [setObj, Sem.run, h1, World.putObj]
    have hps : (es.modify n fun e => { e with key := Value.int .i64 s, val := u }).toList.map (fun e => (e.key, e.val)) = (es.toList.map (fun e => (e.key, e.val))).modify n (fun _ => (.int .i64 s, u)) := by
      rw [Array.toList_modify]
      apply List.ext_getElem?
      intro k
      simp only [List.getElem?_map, List.getElem?_modify]
      by_cases hk : n = k <;> cases es.toList[k]? <;> simp [hk]
    refine ⟨_, _, ?_, ⟨_, clock, World.putObj_heap_same hlt, hps⟩, Chg.putObj (T := fun b => b = r) rfl _, fun x hx => ?_, e3⟩
    · simp [Instr.mapUpdate, Sem.run_bind, run_underlying hm, hg, hc, hf, hks, hs, Result.andThen]
    · obtain ⟨k, hk, rfl⟩ := List.mem_iff_getElem.1 hx
      rw [List.getElem_modify]
      split
      · exact ⟨s, rfl⟩
      · exact hok _ (List.getElem_mem _)
end Go.Proofs.YthfomoigaoffgaaGreat.K
