/- Walks of sort: above (the iterator), below. -/
import Derived.Test.YthfomoigaoffgaaGreatSo1
import Derived.Test.YthfomoigaoffgaaGreatKw
import Derived.Maps.OwnIn
import Derived.OneCell
namespace Go.Proofs.YthfomoigaoffgaaGreat.So
open Go Go.RowKit Go.Shelf Go.Proofs.YthfomoigaoffgaaGreat.K Go.Proofs.YthfomoigaoffgaaGreat.G Go.Proofs.YthfomoigaoffgaaGreat.Ix Go.Proofs.YthfomoigaoffgaaGreat.O
set_option linter.unusedSimpArgs false
set_option linter.unusedVariables false
attribute [local go_sem] Oper.semAt_some

theorem wpListIn_append_run {F : Fence} {n : Nat} {P : Program} {w : World} {ops : Array Oper} {rest : List Oper} {o : Oper} {a : Act} {Q : Exit → Act → World → Prop}
    (hg : o.guard = none) (s x : Operand) (t : TypeId) (hop : o.op = Op.call { callee := Callee.builtin Builtin.append, args := #[s, x], argTypes := #[t, t] })
    (v vx : Value) (hs : a.eval s = v) (hx : a.eval x = vx) (v' : Value) (w' : World) (hrun : (Builtin.append_ #[t, t] o.type #[v, vx]).run P w = .ok v' w') (hK : wpListIn F n P ops Q rest (a.put o.dst v') w') :
    wpListIn F n P ops Q (o :: rest) a w := by
  refine wpListIn_plain hg fun K hK' => ?_
  unfold Oper.wpIn
  refine ⟨?_, ?_⟩
  · simp [Oper.about, hop, resolve, Target.leads, Sem.run_pure]
  · rw [Oper.semAt_plain F _ _ (by rw [hop]; intro c hc'; cases hc')]
    simp [execOp, hop, resolve, invoke, builtin, hs, hx, hrun, Result.andThen]
    exact hK' _ _ hK

theorem infoStr : (Tryz.prog.info? 9).map (fun i => (i.zero, i.size, i.bytes)) = some (some (.string ⟨#[]⟩), 1, 16) := by kernel_rfl
def anyB (m : List ByteArray) (t : List UInt8) : Bool := m.any (fun x => t == x.data.toList)
theorem anyB_contains (m : List ByteArray) (s : ByteArray) : anyB m s.data.toList = m.contains s := by
  unfold anyB
  rw [Bool.eq_iff_iff, List.any_eq_true, List.contains_iff_mem]
  constructor
  · rintro ⟨x, hx, e⟩
    have : s = x := ByteArray.ext (Array.ext' (beq_iff_eq.1 e))
    rw [this]; exact hx
  · intro h; exact ⟨s, h, beq_iff_eq.2 rfl⟩
theorem anyB_push (m : List ByteArray) (s : ByteArray) : anyB (m ++ [s]) = fun t => anyB m t || t == s.data.toList := by
  funext t; unfold anyB; simp [List.any_append]

/-- What lies between two steps of the search: the box bw of the row of work, the map bm of what was met. -/
structure AbI (w : World) (M : Nat → Prop) (i : Nat) (m : List ByteArray) (bw bm : Nat) (v : Value) (wr : World) : Prop where
  box : wr.heap[bw]? = some (.cells #[v] 27 (0, 0))
  bwN : w.heap.size ≤ bw
  bwM : ¬ M bw
  own : Mine str w.heap.size (fun _ => False) wr v (m.drop i)
  ne : v.ownBlock ≠ some bw
  oM : ∀ k, v.ownBlock = some k → ¬ M k
  set : KwSet wr bm m.length (anyB m)
  bmN : w.heap.size ≤ bm
  bmM : ¬ M bm
  bmw : bm ≠ bw
  om : v.ownBlock ≠ some bm
  size : w.heap.size ≤ wr.heap.size
theorem AbI.lt {w : World} {M : Nat → Prop} {i : Nat} {m : List ByteArray} {bw bm : Nat} {v : Value} {wr : World} (h : AbI w M i m bw bm v wr) : bw < wr.heap.size := (Array.getElem?_eq_some_iff.1 h.box).1
/-- what others turn leaves it as it is -/
theorem AbI.chg {w : World} {M M' T : Nat → Prop} {i : Nat} {m : List ByteArray} {bw bm : Nat} {v : Value} {wr wr' : World} (h : AbI w M i m bw bm v wr) (hc : Chg T wr wr') (hT : ∀ k, T k → M k ∨ wr.heap.size ≤ k) (hM : ∀ k, M' k → M k ∨ wr.heap.size ≤ k) : AbI w M' i m bw bm v wr' := by
  have hl := h.lt
  have hm := h.set.lt
  have e1 : ¬ T bw := fun e => (hT _ e).elim h.bwM (fun e => by omega)
  have e2 : ¬ T bm := fun e => (hT _ e).elim h.bmM (fun e => by omega)
  refine ⟨hc.obj h.box e1, h.bwN, fun e => (hM _ e).elim h.bwM (fun e => by omega), h.own.chg hc (fun _ h => h.elim) (fun k hk e => (hT _ e).elim (h.oM k hk) (fun e => by have := (h.own.base_le hk).2; omega)), h.ne,
    fun k hk e => (hM _ e).elim (h.oM k hk) (fun e => by have := (h.own.base_le hk).2; omega), h.set.chg hc e2, h.bmN, fun e => (hM _ e).elim h.bmM (fun e => by omega), h.bmw, h.om, by have := hc.size; have := h.size; omega⟩
/-- one more is met -/
theorem AbI.push {w : World} {M : Nat → Prop} {i : Nat} {m : List ByteArray} {bw bm : Nat} {v : Value} {wr : World} (h : AbI w M i m bw bm v wr) (hMl : ∀ k, M k → k < wr.heap.size) (hi : i ≤ m.length) (s : ByteArray) (hs : s.size ≤ maxLen) (hn : m.length ≤ 1000000000) :
    ∃ w1 v' w3, (Instr.mapUpdate 86 (.map (some bm)) (.string s) (.bool true)).run Tryz.prog wr = .ok () w1 ∧ w1.heap[bw]? = some (.cells #[v] 27 (0, 0)) ∧
      (Builtin.append_ #[27, 27] 27 #[v, .slice (some ⟨w1.heap.size, 0, none⟩) 1 1]).run Tryz.prog (w1.alloc (.cells #[.string s] 9)) = .ok v' w3 ∧ w3.heap[bw]? = some (.cells #[v] 27 (0, 0)) ∧
      (∃ A n c, v' = .slice A n c) ∧ AbI w M i (m ++ [s]) bw bm v' (w3.setCell ⟨bw, 0, none⟩ v') ∧ Chg (fun k => w.heap.size ≤ k ∧ ¬ M k) wr (w3.setCell ⟨bw, 0, none⟩ v') := by
  obtain ⟨w1, hup, hset, hg1⟩ := h.set.update (by unfold maxLen; omega) s hs
  have hc1 : Chg (fun k => k = bm) wr w1 := Chg.grown hg1 (fun k e => .inl (by cases e; rfl))
  have hb1 := hc1.obj h.box (fun e => h.bmw e.symm)
  have ho1 := h.own.chg hc1 (fun _ h => h.elim) (fun k hk e => h.om (by rw [← e]; exact hk))
  have hsz1 := hc1.size
  obtain ⟨w2, hw2⟩ : ∃ w2, w1.alloc (.cells #[.string s] 9) = w2 := ⟨_, rfl⟩
  have hc2 : Chg (fun _ => False) w1 w2 := by rw [← hw2]; exact Chg.alloc _ _ _
  have hb2 := hc2.obj hb1 (fun e => e)
  have ho2 := ho1.chg hc2 (fun _ h => h.elim) (fun _ _ e => e)
  have hsz2 : w2.heap.size = w1.heap.size + 1 := by rw [← hw2]; simp
  have hcell : w2.cell? ⟨w1.heap.size, 0, none⟩ = some (.string s) := by rw [← hw2]; exact cell_at _ _ _ _ rfl
  obtain ⟨i0, hi0, hz0, hz1, hz2⟩ := info_parts infoStr
  obtain ⟨v', w3, hrun, ho3, hg3, hat⟩ := ho2.append (P := Tryz.prog) (t := 27) (ty := 27) (bytes := 16) Tryz.underlying27 hi0 hz0 hz1 hz2 rfl (by decide) (b2 := w1.heap.size) (o2 := 0) (c2 := 1) (m := 1) (ys := [s]) rfl (by simp)
    (scalar_cells (fun j x hj => by
      have hj' : j < 1 := (List.getElem?_eq_some_iff.1 hj).1
      obtain rfl : j = 0 := by omega
      cases hj
      exact hcell)) (by rw [List.length_drop]; simp [maxLen]; omega) (by rw [List.length_drop]; simp; omega) (by have := h.size; omega)
  have hne := h.ne
  have hc3 : Chg (fun k => v.ownBlock = some k) w2 w3 := Chg.grown hg3 (fun k e => .inl e)
  have hb3 := hc3.obj hb2 hne
  have hlt := h.lt
  have hne' : v'.ownBlock ≠ some bw := by
    rcases hat with e | e <;> rw [e]
    · exact hne
    · intro e; injection e with e; omega
  have hmlt := h.set.lt
  have hom' : v'.ownBlock ≠ some bm := by
    rcases hat with e | e <;> rw [e]
    · exact h.om
    · intro e; injection e with e; omega
  have hc4 : Chg (fun k => k = bw) w3 (w3.setCell ⟨bw, 0, none⟩ v') := Chg.setCell (T := fun k => k = bw) rfl _
  have hsz3 := hc3.size
  have hset3 : KwSet w3 bm (m.length + 1) (anyB (m ++ [s])) := by
    rw [anyB_push]
    exact ((hset.chg hc2 (fun e => e)).chg hc3 h.om)
  obtain ⟨A, c, e', _⟩ := ho3.form
  refine ⟨w1, v', w3, hup, hb1, by rw [hw2]; exact hrun, hb3, ⟨A, _, c, e'⟩, ⟨?_, h.bwN, h.bwM, ?_, hne', ?_, ?_, h.bmN, h.bmM, h.bmw, hom', ?_⟩, ?_⟩
  · rw [one_setCell hb3]
  · have : (m ++ [s]).drop i = m.drop i ++ [s] := List.drop_append_of_le_length hi
    rw [this]
    exact ho3.chg hc4 (fun _ h => h.elim) (fun k hk e => hne' (by rw [← e]; exact hk))
  · intro k hk
    rcases hat with e | e
    · rw [e] at hk; exact h.oM k hk
    · rw [e] at hk
      injection hk with hk
      intro hM
      have := hMl k hM
      omega
  · rw [List.length_append, List.length_singleton]
    exact hset3.chg hc4 (fun e => h.bmw e)
  · have := hc4.size; have := h.size; omega
  · have g1 := hc1.mono (T' := fun k => w.heap.size ≤ k ∧ ¬ M k) (fun k e => by subst e; exact ⟨h.bmN, h.bmM⟩)
    have g3 : Chg (fun k => w.heap.size ≤ k ∧ ¬ M k) w2 w3 := hc3.mono (fun k e => ⟨(h.own.base_le e).1, h.oM k e⟩)
    exact ((g1.trans (hc2.mono (fun _ h => h.elim))).trans g3).trans (hc4.mono (fun k e => by subst e; exact ⟨h.bwN, h.bwM⟩))

theorem ab11_calls (S : Nat → Prop) (nm : ByteArray) (B : Nat) (A : Option Addr) (n c : Nat) (W : World) (x : Cl) (cs : List Value) (hB : W.cell? ⟨B, 0, none⟩ = some (.slice A n c)) (hn : 0 < n) (b o : Nat) (hA : A = some ⟨b, o, none⟩) (hc : W.cell? ⟨b, o, none⟩ = some (.string nm)) (hK : kCl.K S W x cs) :
    Calls Tryz.prog 84 #[aggV cs, .pointer (some ⟨B, 0, none⟩)] W fun e W' => e = .returned (.bool (x.1 == nm)) ∧ Below W.heap.size W W' := by
  obtain ⟨A', c', rfl, _, _⟩ := kCl_open hK
  subst hA
  have hlt := lt_of_cell hB
  have hltb := lt_of_cell hc
  have hB' := (cell_old W (.cells #[.string x.1, .slice A' x.2.length c'] 48) B 0 hlt).trans hB
  have hc' := (cell_old W (.cells #[.string x.1, .slice A' x.2.length c'] 48) b o hltb).trans hc
  have HE := Lib.hid (str_eq x.1 nm)
  have hnz : (0 : Int) < (n : Int) := by omega
  unfold aggV
  clear hK hB hc
  go_enter Tryz.func84, Tryz.ntmps84
  go_wp2
  go_quiet (fail)
  go_wp2
  go_ret
  exact ⟨by rw [HE.out]; rfl, below_drewN ((Below.refl _ _).alloc (Nat.le_refl _) _) _⟩

def AbEnd (R : List ByteArray) (J Jx : List ByteArray → (Nat → Prop) → World → Prop) (e : Ending) (W : World) : Prop :=
  (∃ v, e = .returned v ∧ ((∃ xs M, xs = R ∧ J xs M W) ∨ (∃ pre M, pre <+: R ∧ Jx pre M W))) ∨ ∃ chain pre M, e = .panicked chain ∧ False ∧ J pre M W
/-- the whole of what does not turn: the boxes of the name and of the theory, the theory -/
structure AbT (S : Nat → Prop) (r : Raw) (T : Thy) (bt bn : Nat) (a : ByteArray) (w : World) : Prop where
  thy : ThyR S w r T
  box : w.heap[bt]? = some (.cells (thyC r T) 29 (0, 0))
  nm : w.cell? ⟨bn, 0, none⟩ = some (.string a)
theorem AbT.chg {S T' : Nat → Prop} {r : Raw} {T : Thy} {bt bn : Nat} {a : ByteArray} {w w' : World} (h : AbT S r T bt bn a w) (hc : Chg T' w w') (h1 : ∀ k, S k → k < w.heap.size → ¬ T' k) (h2 : ¬ T' bt) (h3 : ¬ T' bn) : AbT S r T bt bn a w' :=
  ⟨h.thy.chg hc h1, hc.obj h.box h2, hc.cell h.nm h3⟩
theorem AbT.c1 {S : Nat → Prop} {r : Raw} {T : Thy} {bt bn : Nat} {a : ByteArray} {w : World} (h : AbT S r T bt bn a w) : w.cell? ⟨bt, 1, none⟩ = some (.slice r.a1 T.cls.length r.c1) := by
  have := h.box
  simp [World.cell?, this, thyC]
theorem AbT.lt {S : Nat → Prop} {r : Raw} {T : Thy} {bt bn : Nat} {a : ByteArray} {w : World} (h : AbT S r T bt bn a w) : bt < w.heap.size ∧ bn < w.heap.size := ⟨(Array.getElem?_eq_some_iff.1 h.box).1, lt_of_cell h.nm⟩
/-- the set of what was met is small -/
def AbN (cs : List Cl) (a : ByteArray) (m : List ByteArray) : Prop := m.Nodup ∧ ∀ x ∈ m, x = a ∨ x ∈ allSups cs
theorem AbN.len {cs : List Cl} {a : ByteArray} {m : List ByteArray} (h : AbN cs a m) : m.length ≤ (allSups cs).length + 1 := by
  have := nodup_len (m := a :: allSups cs) h.1 (fun x hx => by
    rcases h.2 x hx with rfl | e
    · exact List.mem_cons_self ..
    · exact List.mem_cons_of_mem _ e)
  simpa using this
theorem AbN.add {cs : List Cl} {a : ByteArray} {m : List ByteArray} (h : AbN cs a m) {l : List ByteArray} (hl : ∀ s ∈ l, s ∈ allSups cs) : AbN cs a (addNew m l) := ⟨addNew_nodup _ _ h.1, fun x hx => by
  rcases (addNew_mem ..).1 hx with e | e
  · exact h.2 x e
  · exact .inr (hl x e)⟩
theorem bfs_step (cs : List Cl) (k i : Nat) (m : List ByteArray) (h : i < m.length) : bfs cs (k + 1) i m = bfs cs k (i + 1) (addNew m (sups cs (m[i]'h))) := by rw [bfs, dif_pos h]
theorem bfs_end (cs : List Cl) (k i : Nat) (m : List ByteArray) (h : m.length ≤ i) : bfs cs k i m = m := by
  cases k with
  | zero => rfl
  | succ k => rw [bfs, dif_neg (by omega)]
theorem bfs_prefix (cs : List Cl) : ∀ (k i : Nat) (m : List ByteArray), m <+: bfs cs k i m
  | 0, _, m => List.prefix_refl m
  | k + 1, i, m => by
    by_cases h : i < m.length
    · rw [bfs_step cs k i m h]
      obtain ⟨q, hq⟩ := addNew_prefix m (sups cs (m[i]'h))
      exact List.IsPrefix.trans ⟨q, hq.symm⟩ (bfs_prefix cs k (i + 1) _)
    · rw [bfs_end _ _ _ _ (by omega)]
      exact List.prefix_refl m
theorem sups_none {cs : List Cl} {x : ByteArray} (h : idxP (fun c : Cl => c.1 == x) cs 0 = -1) : sups cs x = [] := by
  rcases idxP_range (fun c : Cl => c.1 == x) cs 0 with _ | ⟨k, hk, e, _⟩
  · unfold sups find
    cases hf : cs.find? (fun c => c.1 == x) with
    | none => rfl
    | some c =>
      have h1 := List.find?_some hf
      have h2 := List.mem_of_find?_eq_some hf
      have h3 : decide (0 ≤ idxP (fun c : Cl => c.1 == x) cs 0) = cs.any (fun c => c.1 == x) := idxP_any _ _ _
      rw [h] at h3
      have h4 : cs.any (fun c => c.1 == x) = true := List.any_eq_true.2 ⟨c, h2, h1⟩
      rw [h4] at h3
      exact absurd h3 (by decide)
  · rw [h] at e; omega
theorem sups_some {cs : List Cl} {x : ByteArray} {k : Nat} (hk : k < cs.length) (h1 : (cs[k]'hk).1 == x) (h2 : ∀ j (hj : j < k), ((cs[j]'(Nat.lt_trans hj hk)).1 == x) = false) : sups cs x = (cs[k]'hk).2 := by
  have : find cs x = some (cs[k]'hk) := by
    unfold find
    rw [List.find?_eq_some_iff_getElem]
    exact ⟨h1, k, hk, rfl, fun j hj => by simpa using h2 j hj⟩
  unfold sups
  rw [this]
theorem run_drop1 (w : World) (b o n c : Nat) (hn : 0 < n) : (Instr.slice 27 (.slice (some ⟨b, o, none⟩) n c) (some (.int .i64 1)) none none).run Tryz.prog w = .ok (.slice (if c = 1 then some ⟨b, o, none⟩ else some ⟨b, o + 1, none⟩) (n - 1) (c - 1)) w := by
  have h1 : (0 : Int) ≤ 1 := by decide
  have h2 : (1 : Int) ≤ (n : Int) := by omega
  have hu := Tryz.underlying27
  simp [Instr.slice, go_sem, hu, h1, h2]
end Go.Proofs.YthfomoigaoffgaaGreat.So
