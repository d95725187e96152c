/- Rows of tokens: read, compared, appended. -/
import Derived.Test.YtmkfeanggmjhmaaPTokenPartsx2
import Derived.Test.YtmkfeanggmjhmaaS12
import Derived.Test.YtmkfeanggmjhmaaE
import Derived.Test.YtmkfeanggmjhmaaQ2
import Derived.ArgAppend
import Derived.Laws.Tables
namespace Go.Proofs.Ytmkfeanggmjhmaa.Y
open Go Go.RowKit Go.Shelf Go.Proofs.YtmkfeanggmjhmaaW.PrintWords Go.Proofs.YtmkfeanggmjhmaaW.PrintLast Go.Proofs.YtmkfeanggmjhmaaW.PrintMore
open Go.Proofs.Ytmkfeanggmjhmaa.M Go.Proofs.Ytmkfeanggmjhmaa.K Go.Proofs.Ytmkfeanggmjhmaa.E Go.Proofs.Ytmkfeanggmjhmaa.S Go.Proofs.Ytmkfeanggmjhmaa.PTokenParts
set_option linter.unusedSimpArgs false
set_option linter.unusedVariables false

def s36 (x : Tok) : S36 := ⟨x.kind, x.text, x.at_⟩
theorem tok_reps (w : World) (base : Nat) (ok : Nat → Prop) : ∀ (l : Nat) (xs : List Tok), xs.length ≤ l → Reps (k36.M w base ok) 3 (xs.map s36) (xs.flatMap tokCells) := by
  intro l
  induction l with
  | zero =>
    intro xs h
    obtain rfl : xs = [] := List.eq_nil_of_length_eq_zero (by omega)
    exact Reps.none _ _
  | succ l ih =>
    intro xs h
    rcases xs.eq_nil_or_concat with rfl | ⟨ys, y, rfl⟩
    · exact Reps.none _ _
    · have := Reps.snoc (ih ys (by simp at h; omega)) (k36_mkM w base ok (s36 y)) rfl
      rw [List.concat_eq_append, List.map_append, List.flatMap_append]
      simpa [tokCells, s36] using this
theorem TokRow.kd {w : World} {base : Nat} {v : Value} {xs : List Tok} (h : TokRow w base v xs) : Kd.R k36 36 w base (fun _ => True) v (xs.map s36) := by
  refine ⟨fun _ _ => trivial, xs.flatMap tokCells, ?_, tok_reps w base _ _ xs (Nat.le_refl _)⟩
  rw [List.length_map]
  exact h
theorem few_sizes {most : Int} {l : List ByteArray} {s : ByteArray} (h : fewB most l s = true) : l.length ≤ 20 ∧ (s.size : Int) ≤ most ∧ ∀ x ∈ l, x.size ≤ 60 := by
  unfold fewB at h
  simp only [Bool.and_eq_true, decide_eq_true_eq, Bool.not_eq_true', List.any_eq_false, Bool.not_eq_true] at h
  refine ⟨h.1.1, h.1.2, fun x hx => ?_⟩
  have := h.2 x hx
  simp at this
  exact this
theorem Equal_ev (xs : List Tok) (hl : xs.length ≤ 1000000000) : Evt (fun k => token_Token_13.f k (xs.map s36) (xs.map s36)) true := by
  unfold token_Token_13.f
  refine Evt.tt rfl ?_
  have key : ∀ d j : Nat, xs.length - j ≤ d → j ≤ xs.length → Evt (fun k => token_Token_13.l0 k (xs.map s36) (xs.map s36) (((xs.map s36).length : Nat) : Int) (j : Int)) true := by
    intro d
    induction d with
    | zero =>
      intro j hd hj
      refine Evt.succ (fun k => rfl) ?_
      exact Evt.ff (by rw [List.length_map]; omega) (Evt.const _)
    | succ d ih =>
      intro j hd hj
      by_cases hlt : j < xs.length
      · refine Evt.succ (fun k => rfl) ?_
        refine Evt.tt (by rw [List.length_map]; omega) (Evt.tt (by omega) (Evt.tt (by rw [List.length_map]; omega) (Evt.tt (by rw [List.length_map]; omega) ?_)))
        refine Evt.ff (by simp) ?_
        rw [w64 (x := (j : Int) + 1) (by omega) (by omega)]
        exact ih (j + 1) (by omega) (by omega)
      · refine Evt.succ (fun k => rfl) ?_
        exact Evt.ff (by rw [List.length_map]; omega) (Evt.const _)
  exact key _ 0 (Nat.le_refl _) (Nat.zero_le _)

theorem flat_len (xs : List Tok) : (xs.flatMap tokCells).length = xs.length * 3 := by
  induction xs with
  | nil => rfl
  | cons x r ih => rw [List.flatMap_cons, List.length_append, ih, List.length_cons]; simp only [tokCells, List.length_cons, List.length_nil]; omega
theorem flat_one (xs : List Tok) : ∀ u ∈ xs.flatMap tokCells, u.oneCell' = true := by
  intro u hu
  obtain ⟨x, _, h⟩ := List.mem_flatMap.1 hu
  simp only [tokCells, List.mem_cons, List.not_mem_nil, or_false] at h
  rcases h with rfl | rfl | rfl <;> rfl
theorem flat_at : ∀ (xs : List Tok) (j : Nat) (x : Tok), xs[j]? = some x → ∀ i, i < 3 → (xs.flatMap tokCells)[j * 3 + i]? = (tokCells x)[i]?
  | [], j, x, h, i, hi => by simp at h
  | y :: r, 0, x, h, i, hi => by
    simp at h
    subst h
    rw [List.flatMap_cons, List.getElem?_append_left (by simp only [tokCells, List.length_cons, List.length_nil]; omega)]
    rw [Nat.zero_mul, Nat.zero_add]
  | y :: r, j + 1, x, h, i, hi => by
    rw [List.flatMap_cons, List.getElem?_append_right (by simp only [tokCells, List.length_cons, List.length_nil]; omega)]
    rw [show (j + 1) * 3 + i - (tokCells y).length = j * 3 + i by simp only [tokCells, List.length_cons, List.length_nil]; omega]
    exact flat_at r j x (by simpa using h) i hi
/-- tokens read at an address -/
theorem reads_of {w : World} {ad : Addr} {xs : List Tok} (hn : xs.length ≤ 9223372036854775807) (h : ∀ j u, (xs.flatMap tokCells)[j]? = some u → w.cell? (ad.add j) = some u) : Kd.C k36 w (some ad) xs.length (xs.map s36) := by
  refine ⟨List.length_map _, hn, fun _ => ⟨ad, rfl, fun j p hp => ?_⟩⟩
  rw [List.getElem?_map] at hp
  obtain ⟨x, hx, rfl⟩ := Option.map_eq_some_iff.1 hp
  refine ⟨tokCells x, rfl, Kd.K_of_M k36 (k36_mkM w 0 (fun _ => True) (s36 x)), fun i u hu => ?_⟩
  refine h _ _ ?_
  show (xs.flatMap tokCells)[j * 3 + i]? = some u
  rw [flat_at xs j x hx i (by have := (List.getElem?_eq_some_iff.1 hu).1; simpa [tokCells] using this)]
  exact hu
theorem reads_nil (w : World) (A : Option Addr) : Kd.C k36 w A 0 (([] : List Tok).map s36) := ⟨rfl, by omega, fun h => by omega⟩

/-- a row of tokens, taken apart -/
theorem row_cases {w : World} {base : Nat} {v : Value} {xs : List Tok} (h : TokRow w base v xs) :
    (v = .slice none 0 0 ∧ xs = []) ∨ ∃ g cap tail, v = .slice (some ⟨g, 0, none⟩) xs.length cap ∧ base ≤ g ∧ w.heap[g]? = some (.cells (xs.flatMap tokCells ++ tail).toArray 36 (0, 0)) ∧ xs.length ≤ cap ∧ cap ≤ maxLen ∧ xs.length * 3 + tail.length = cap * 3 := by
  obtain ⟨h1, h2⟩ := h
  rcases h2 with ⟨hv, hn⟩ | ⟨g, cap, cur, hv, hg, hh, hc, hm, hs, ht⟩
  · exact .inl ⟨hv, List.eq_nil_of_length_eq_zero hn⟩
  · refine .inr ⟨g, cap, cur.toList.drop (xs.length * 3), hv, hg, ?_, hc, hm, ?_⟩
    · rw [← ht, List.take_append_drop]; exact hh
    · have e : cur.toList.length = cap * 3 := hs
      rw [List.length_drop, e]
      have := Nat.mul_le_mul_right 3 hc
      omega
theorem row_make {w : World} {base g cap : Nat} {xs : List Tok} {tail : List Value} (hg : base ≤ g) (hh : w.heap[g]? = some (.cells (xs.flatMap tokCells ++ tail).toArray 36 (0, 0))) (hc : xs.length ≤ cap) (hm : cap ≤ maxLen)
    (hs : xs.length * 3 + tail.length = cap * 3) : TokRow w base (.slice (some ⟨g, 0, none⟩) xs.length cap) xs :=
  ⟨flat_len xs, .inr ⟨g, cap, _, rfl, hg, hh, hc, hm, by simp only [List.size_toArray, List.length_append, flat_len]; exact hs, by rw [List.take_append_of_le_length (by rw [flat_len]; exact Nat.le_refl _)]; rw [← flat_len, List.take_length]⟩⟩
theorem row_cells {w : World} {g : Nat} {xs : List Tok} {tail : List Value} (hh : w.heap[g]? = some (.cells (xs.flatMap tokCells ++ tail).toArray 36 (0, 0))) :
    ∀ j u, (xs.flatMap tokCells)[j]? = some u → w.cell? ((⟨g, 0, none⟩ : Addr).add j) = some u := by
  intro j u hj
  have hadd : (⟨g, 0, none⟩ : Addr).add j = ⟨g, j, none⟩ := by unfold Addr.add; split <;> simp_all
  rw [hadd, Lib.cell_of_heap hh, List.getElem?_toArray, List.getElem?_append_left (List.getElem?_eq_some_iff.1 hj).1]
  exact hj
/-- a row that is the call's own, or an empty slice without room -/
def Hold (w : World) (base : Nat) (v : Value) (xs : List Tok) : Prop := (xs = [] ∧ ∃ A, v = .slice A 0 0) ∨ TokRow w base v xs

/-- 'append' of a row that was run -/
theorem wpList_append_run {P : Program} {ops : Array Oper} {rest : List Oper} {o : Oper} {a : Act} {w : World} {Q : Exit → Act → World → Prop} (hg : o.guard = none) (s x : Operand) (t : TypeId)
    (hop : o.op = Op.call { callee := Callee.builtin Builtin.append, args := #[s, x], argTypes := #[t, t] }) (v vx : Value) (hs : a.eval s = v) (hx : a.eval x = vx) (v' : Value) (w' : World)
    (hrun : (Builtin.append_ #[t, t] o.type #[v, vx]).run P w = .ok v' w') (hK : wpList P ops Q rest (a.put o.dst v') w') : wpList P ops Q (o :: rest) a w := by
  refine wpList_plain hg fun K hK' => ?_
  subst hs hx
  unfold Oper.wp
  simp [execOp, hop, resolve, invoke, builtin, hrun, Result.andThen]
  exact hK' _ _ hK
theorem infoTok : (Try.prog.info? 36).map (fun i => (i.zero, i.size, i.bytes)) = some (some (.agg #[.int .i64 0, .string ⟨#[]⟩, .int .i64 0]), 3, 32) := by kernel_rfl

/-- 'append(x, y...)' of rows of tokens -/
theorem append_run {w : World} {base b2 : Nat} {v vy : Value} {xs ys : List Tok} (h : Hold w base v xs) (hy : TokRow w b2 vy ys) (hb : base ≤ w.heap.size) (hl : xs.length + ys.length ≤ 1000000) :
    ∃ v' w', (Builtin.append_ #[27, 27] 27 #[v, vy]).run Try.prog w = .ok v' w' ∧ Hold w' base v' (xs ++ ys) ∧ Below base w w' := by
  obtain ⟨i0, hi, hz0, hz1, hz2⟩ := info_parts infoTok
  by_cases hm : ys = []
  · subst hm
    obtain ⟨A, n, c, rfl, hc⟩ : ∃ A n c, v = .slice A n c ∧ n ≤ c := by
      rcases h with ⟨rfl, A, rfl⟩ | h
      · exact ⟨A, 0, 0, rfl, Nat.le_refl _⟩
      · rcases row_cases h with ⟨rfl, rfl⟩ | ⟨g, cap, tail, rfl, _, _, hc, _⟩
        · exact ⟨_, _, _, rfl, Nat.le_refl _⟩
        · exact ⟨_, _, _, rfl, hc⟩
    obtain ⟨A2, c2, rfl⟩ := S.own_slice hy
    refine ⟨.slice A n c, w, ?_, by rw [List.append_nil]; exact h, Below.refl _ _⟩
    cases A2 <;> cases A <;> simp [Builtin.append_, run_underlying Try.underlying27, sizeOf, typeInfo, hi, Builtin.lenOf, hc, storeCells, Result.andThen, go_sem]
  · rcases row_cases hy with ⟨rfl, rfl⟩ | ⟨g, cap, tail, rfl, hg, hh, hc, hcm, ht⟩
    · exact absurd rfl hm
    · have hcells := row_cells hh
      have hbytes : (xs.length + ys.length) * 32 ≤ 140737488355328 := by omega
      have h63 : xs.length + ys.length ≤ maxLen := by unfold maxLen; omega
      have fin : ∀ {b3 : Nat} {v' : Value} {w' : World}, base ≤ b3 → w'.ownsRow b3 36 3 v' (xs.length + ys.length) (xs.flatMap tokCells ++ ys.flatMap tokCells) → TokRow w' base v' (xs ++ ys) := by
        intro b3 v' w' hb3 ho
        unfold TokRow
        rw [List.length_append, List.flatMap_append]
        exact ⟨ho.1, ho.2.imp id (fun ⟨g, cap, cur, h1, h2, h3⟩ => ⟨g, cap, cur, h1, Nat.le_trans hb3 h2, h3⟩)⟩
      rcases h with ⟨rfl, A, rfl⟩ | h
      · cases A with
        | none =>
          obtain ⟨v', w', hr, ho, hgr, _⟩ := run_append_own (P := Try.prog) w base 27 27 36 i0 _ 3 32 Try.underlying27 hi hz0 hz1 hz2 rfl (by decide) (.slice none 0 0) 0 [] (World.ownsRow_nil w _ _ _)
            ⟨g, 0, none⟩ ys.length cap (ys.flatMap tokCells) (flat_len ys) hcells (flat_one ys) (by simpa using h63) (by simpa using hbytes) hb
          exact ⟨v', w', hr, .inr (fin (Nat.le_refl _) (by simpa using ho)), (Below.refl _ _).grown hgr hb (fun k hk => by simp [Value.ownBlock] at hk)⟩
        | some ad =>
          obtain ⟨v', w', hr, ho, hgr⟩ := run_append_arg_grows (P := Try.prog) w 27 27 36 i0 _ 3 32 Try.underlying27 hi hz0 hz1 hz2 rfl (by decide) ad 0 0 [] rfl (fun j u hj => by simp at hj)
            ⟨g, 0, none⟩ ys.length cap (ys.flatMap tokCells) (flat_len ys) hcells (by have : 0 < ys.length := List.length_pos_iff.2 hm; omega) (by simpa using h63) (by simpa using hbytes)
          exact ⟨v', w', hr, .inr (fin hb (by simpa using ho)), (Below.refl _ _).grown hgr hb (fun k hk => by cases hk)⟩
      · obtain ⟨v', w', hr, ho, hgr, _⟩ := run_append_own (P := Try.prog) w base 27 27 36 i0 _ 3 32 Try.underlying27 hi hz0 hz1 hz2 rfl (by decide) v xs.length _ h
          ⟨g, 0, none⟩ ys.length cap (ys.flatMap tokCells) (flat_len ys) hcells (flat_one ys) h63 hbytes hb
        exact ⟨v', w', hr, .inr (fin (Nat.le_refl _) ho), (Below.refl _ _).grown hgr hb (fun k hk => (h.lt k hk).1)⟩
end Go.Proofs.Ytmkfeanggmjhmaa.Y
