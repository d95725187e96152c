/- The plain law SortNarrower: with a narrower sort the sorts of the arguments are narrower, those of a Meet are the Meets.  No program's function is in sight. -/
import Derived.Test.YthfomoigaoffgaaGreatNd45
import Derived.Test.YthfomoigaoffgaaGreatOb
namespace Go.Proofs.YthfomoigaoffgaaGreat.O
set_option linter.unusedSimpArgs false
set_option linter.unusedVariables false
open Go Go.Proofs.YthfomoigaoffgaaGreat.Ix Go.Proofs.YthfomoigaoffgaaGreat.Nd

/-- the sorts that a class asks of an argument, and those that classes do -/
def rowOf (ars : List Arx) (t c : ByteArray) (j : Nat) : List ByteArray := match findA ars t c with
  | none => []
  | some b => b.2.2[j]?.getD []
def rows (ars : List Arx) (t : ByteArray) (s : List ByteArray) (j : Nat) : List ByteArray := s.flatMap (fun c => rowOf ars t c j)
theorem rows_mem {ars : List Arx} {t : ByteArray} {s : List ByteArray} {j : Nat} {x : ByteArray} : x ∈ rows ars t s j ↔ ∃ c ∈ s, x ∈ rowOf ars t c j := List.mem_flatMap
theorem gather_spec {ars : List Arx} {t : ByteArray} : ∀ (s : List ByteArray) (out : List (List ByteArray)), (∀ c b, findA ars t c = some b → b.2.2.length = out.length) →
    (gather ars t s out = none ∧ ∃ c ∈ s, findA ars t c = none) ∨ (∃ l, gather ars t s out = some l ∧ (∀ c ∈ s, ∃ b, findA ars t c = some b) ∧ l.length = out.length ∧ ∀ j, l[j]? = (out[j]?).map (fun o => o ++ rows ars t s j))
  | [], out, _ => .inr ⟨out, rfl, fun c h => absurd h List.not_mem_nil, rfl, fun j => by simp [rows]⟩
  | c :: r, out, h => by
    rw [gather]
    cases hf : findA ars t c with
    | none => exact .inl ⟨rfl, c, List.mem_cons_self .., hf⟩
    | some b =>
      have hb := h c b hf
      rcases gather_spec r (zipA out b.2.2) (fun c' b' h' => by rw [zipA_len]; exact h c' b' h') with ⟨e, c', hc', hn⟩ | ⟨l, e, hs, hl, hg⟩
      · exact .inl ⟨e, c', List.mem_cons_of_mem _ hc', hn⟩
      · refine .inr ⟨l, e, ?_, by rw [hl, zipA_len], fun j => ?_⟩
        · intro c' hc'
          rcases List.mem_cons.1 hc' with rfl | hc'
          · exact ⟨b, hf⟩
          · exact hs c' hc'
        · rw [hg, zipA_get _ _ _ (by omega)]
          have : rows ars t (c :: r) j = b.2.2[j]?.getD [] ++ rows ars t r j := by
            unfold rows
            rw [List.flatMap_cons]
            congr 1
            unfold rowOf
            rw [hf]
          rw [this]
          cases out[j]? <;> simp

/-- a theory that has been found right -/
structure RT (cs : List Cl) (ts : List Td) (ars : List Arx) : Prop where
  right : Right [] cs
  cls : classesE cs = 0
  len : ∀ a ∈ ars, ∀ n, args? ts a.1 = some n → (a.2.2.length : Int) = n
  known : ∀ a ∈ ars, ∀ x ∈ a.2.2, knownB cs x = true
  reg : ∀ a ∈ ars, ∀ c, belowB cs a.2.1 c = true → ∃ b, findA ars a.1 c = some b ∧ ∀ j : Nat, withinB cs (a.2.2[j]?.getD []) (b.2.2[j]?.getD []) = true
theorem zipW_get {cs : List Cl} : ∀ (xs ys : List (List ByteArray)), xs.length = ys.length → zipW cs xs ys = true → ∀ j : Nat, withinB cs (xs[j]?.getD []) (ys[j]?.getD []) = true
  | [], [], _, _, j => rfl
  | [], _ :: _, h, _, _ => by simp at h
  | _ :: _, [], h, _, _ => by simp at h
  | x :: xs, y :: ys, h, hz, j => by
    rw [zipW, Bool.and_eq_true] at hz
    cases j with
    | zero => exact hz.1
    | succ j => exact zipW_get xs ys (by simpa using h) hz.2 j
theorem sortsX_known {cs : List Cl} : ∀ {l : List (List ByteArray)}, sortsX cs l = 0 → ∀ s ∈ l, knownB cs s = true
  | [], _ => fun s h => absurd h List.not_mem_nil
  | x :: r, h => by
    rw [sortsX] at h
    by_cases h1 : sortE cs x = 0
    · rw [if_neg (fun e => e h1)] at h
      intro s hs
      rcases List.mem_cons.1 hs with rfl | hs
      · unfold sortE at h1
        by_cases h2 : 20 < s.length
        · rw [if_pos h2] at h1; exact absurd h1 (by decide)
        · rw [if_neg h2] at h1
          by_cases h3 : knownB cs s = true
          · exact h3
          · rw [if_neg h3] at h1; exact absurd h1 (by decide)
      · exact sortsX_known h s hs
    · rw [if_pos h1] at h; exact absurd h h1
theorem rt_of {cs : List Cl} {ts : List Td} {ars : List Arx} (h : checkT cs ts ars = 0) : RT cs ts ars := by
  obtain ⟨h1, _, h3, h4⟩ := check_parts h
  refine ⟨classes_right h1, h1, fun a ha n e => ?_, fun a ha => sortsX_known (arE_sorts h3 a ha), fun a ha c hc => ?_⟩
  · obtain ⟨m, e1, e2⟩ := Ch.arE_len h3 a ha
    rw [e] at e1
    cases e1
    exact e2
  · have hr := List.all_eq_true.1 h4 a ha
    unfold regB at hr
    have hr2 := List.all_eq_true.1 hr c (by
      unfold belowB at hc
      exact List.contains_iff_mem.1 hc)
    cases hf : findA ars a.1 c with
    | none => rw [hf] at hr2; exact absurd (show false = true from hr2) (by decide)
    | some b =>
      rw [hf] at hr2
      exact ⟨b, rfl, zipW_get _ _ (Ch.are_find h3 a ha c b hf).symm hr2⟩
section
variable {cs : List Cl} {ts : List Td} {ars : List Arx}
theorem RT.find_len (h : RT cs ts ars) {t c : ByteArray} {b : Arx} {n : Int} (hf : findA ars t c = some b) (hn : args? ts t = some n) : b.2.2.length = n.toNat := by
  obtain ⟨hm, h1, _⟩ := Ch.find_mem hf
  have := h.len b hm n (by rw [h1]; exact hn)
  omega
theorem RT.need (h : RT cs ts ars) (t : ByteArray) (s : List ByteArray) :
    (needB cs ts ars t s = none ∧ (args? ts t = none ∨ ∃ c ∈ s, findA ars t c = none)) ∨ ∃ n l, args? ts t = some n ∧ needB cs ts ars t s = some l ∧ (∀ c ∈ s, ∃ b, findA ars t c = some b) ∧ l.length = n.toNat ∧ ∀ j, j < n.toNat → l[j]? = some (leastB cs (rows ars t s j)) := by
  unfold needB
  cases hn : args? ts t with
  | none => exact .inl ⟨rfl, .inl rfl⟩
  | some n =>
    rcases gather_spec (ars := ars) (t := t) s (List.replicate n.toNat []) (fun c b hf => by rw [List.length_replicate]; exact h.find_len hf hn) with ⟨e, c, hc, hf⟩ | ⟨l, e, hs, hl, hg⟩
    · exact .inl ⟨by show (gather ars t s (List.replicate n.toNat [])).map _ = none; rw [e]; rfl, .inr ⟨c, hc, hf⟩⟩
    · refine .inr ⟨n, l.map (leastB cs), rfl, by show (gather ars t s (List.replicate n.toNat [])).map _ = _; rw [e]; rfl, hs, by rw [List.length_map, hl, List.length_replicate], fun j hj => ?_⟩
      rw [List.getElem?_map, hg, List.getElem?_replicate, if_pos hj]
      simp
theorem RT.within (h : RT cs ts ars) {t : ByteArray} {u v : List ByteArray} {j : Nat} (hu : ∀ c ∈ u, ∃ b, findA ars t c = some b) (huv : withinB cs u v = true) : withinB cs (rows ars t u j) (rows ars t v j) = true := within_iff.2 fun x hx => by
  obtain ⟨c, hc, hxc⟩ := rows_mem.1 hx
  obtain ⟨d, hd, hdc⟩ := within_iff.1 huv c hc
  obtain ⟨b, hb⟩ := hu d hd
  obtain ⟨hbm, hb1, hb2⟩ := Ch.find_mem hb
  obtain ⟨b', hb', hw⟩ := h.reg b hbm c (by rw [hb2]; exact hdc)
  rw [hb1] at hb'
  have hxb : x ∈ b'.2.2[j]?.getD [] := by unfold rowOf at hxc; rw [hb'] at hxc; exact hxc
  obtain ⟨y, hy, hyx⟩ := within_iff.1 (hw j) x hxb
  exact ⟨y, rows_mem.2 ⟨d, hd, by unfold rowOf; rw [hb]; exact hy⟩, hyx⟩
theorem RT.rows_known (h : RT cs ts ars) (t : ByteArray) (s : List ByteArray) (j : Nat) : knownB cs (rows ars t s j) = true := known_iff.2 fun x hx => by
  obtain ⟨c, _, hxc⟩ := rows_mem.1 hx
  unfold rowOf at hxc
  cases hf : findA ars t c with
  | none => rw [hf] at hxc; exact absurd hxc List.not_mem_nil
  | some b =>
    rw [hf] at hxc
    obtain ⟨hbm, _, _⟩ := Ch.find_mem hf
    replace hxc : x ∈ b.2.2[j]?.getD [] := hxc
    cases hj : b.2.2[j]? with
    | none => rw [hj] at hxc; exact absurd hxc List.not_mem_nil
    | some r =>
      rw [hj] at hxc
      exact known_iff.1 (h.known b hbm r (List.mem_of_getElem? hj)) x hxc
theorem args_ok {t : ByteArray} {a : List ByteArray} {x : List (List ByteArray)} (h : argsB cs ts ars t a = (x, 0)) : checkT cs ts ars = 0 ∧ (normB cs a).2 = 0 ∧ needB cs ts ars t (leastB cs a) = some x ∧ ∀ r ∈ x, r.length ≤ 20 := by
  unfold argsB at h
  by_cases h1 : checkT cs ts ars = 0
  · rw [if_neg (fun e => e h1)] at h
    by_cases h2 : (args? ts t).isNone = true
    · rw [if_pos h2] at h; exact absurd (show (9 : Int) = 0 from congrArg Prod.snd h) (by decide)
    · rw [if_neg h2] at h
      by_cases h3 : (normB cs a).2 = 0
      · rw [if_neg (fun e => e h3)] at h
        have e3 := (norm_ok h3).2.2.2
        rw [e3] at h
        dsimp only at h
        cases hn : needB cs ts ars t (leastB cs a) with
        | none => rw [hn] at h; exact absurd (show (14 : Int) = 0 from congrArg Prod.snd h) (by decide)
        | some l =>
          rw [hn] at h
          dsimp only at h
          cases h4 : l.any (fun x => decide (20 < x.length)) with
          | true => rw [h4, if_pos rfl] at h; exact absurd (show (5 : Int) = 0 from congrArg Prod.snd h) (by decide)
          | false =>
            rw [h4, if_neg (by decide)] at h
            cases h
            refine ⟨h1, h3, rfl, fun r hr => ?_⟩
            have := List.any_eq_false.1 h4 r hr
            simpa using this
      · rw [if_pos h3] at h; exact absurd (congrArg Prod.snd h) h3
  · rw [if_pos h1] at h; exact absurd (congrArg Prod.snd h) h1

/-- the law SortNarrower, of the plain functions -/
theorem narrower_law {t : ByteArray} {a b m : List ByteArray} {x y : List (List ByteArray)} (ha : argsB cs ts ars t a = (x, 0)) (hb : argsB cs ts ars t b = (y, 0)) (hm : meetB cs a b = (m, 0)) :
    x.length = y.length ∧ ((argsB cs ts ars t m).2 = 0 ∨ (argsB cs ts ars t m).2 = 5) ∧ ((argsB cs ts ars t m).2 = 0 → (argsB cs ts ars t m).1.length = x.length) ∧
    ∀ (i : Nat) z, (argsB cs ts ars t m).1[i]? = some z → ∃ xi yi, x[i]? = some xi ∧ y[i]? = some yi ∧ meetB cs xi yi = (z, 0) ∧ (lessB cs a b = true → lessB cs xi yi = true) := by
  obtain ⟨hck, na, ea, la⟩ := args_ok ha
  obtain ⟨_, nb, eb, lb⟩ := args_ok hb
  have hT := rt_of hck
  have hR := hT.right
  obtain ⟨h0, la20, ka, _⟩ := norm_ok na
  obtain ⟨_, lb20, kb, _⟩ := norm_ok nb
  have hm2 := (meet_ok (cs := cs) (a := a) (b := b) (by rw [hm])).2.2
  obtain rfl : leastB cs (a ++ b) = m := by rw [hm] at hm2; exact (congrArg Prod.fst hm2).symm
  have kab : knownB cs (a ++ b) = true := by rw [known_app, ka, kb]; rfl
  have km := least_known kab
  have hlm : (leastB cs (a ++ b)).length ≤ 20 := by
    by_cases hl : 20 < (leastB cs (a ++ b)).length
    · unfold meetB at hm
      rw [if_neg (fun e => e na), if_neg (fun e => e nb), if_pos hl] at hm
      exact absurd (show (5 : Int) = 0 from congrArg Prod.snd hm) (by decide)
    · omega
  have enm := norm_of h0 hlm km
  rw [least_idem] at enm
  obtain ⟨n, l1, hn, e1, s1, len1, g1⟩ : ∃ n l, args? ts t = some n ∧ needB cs ts ars t (leastB cs a) = some l ∧ (∀ c ∈ leastB cs a, ∃ b, findA ars t c = some b) ∧ l.length = n.toNat ∧ ∀ j, j < n.toNat → l[j]? = some (leastB cs (rows ars t (leastB cs a) j)) := by
    rcases hT.need t (leastB cs a) with ⟨e, _⟩ | h
    · rw [ea] at e; cases e
    · exact h
  obtain ⟨n', l2, hn', e2, s2, len2, g2⟩ : ∃ n l, args? ts t = some n ∧ needB cs ts ars t (leastB cs b) = some l ∧ (∀ c ∈ leastB cs b, ∃ b, findA ars t c = some b) ∧ l.length = n.toNat ∧ ∀ j, j < n.toNat → l[j]? = some (leastB cs (rows ars t (leastB cs b) j)) := by
    rcases hT.need t (leastB cs b) with ⟨e, _⟩ | h
    · rw [eb] at e; cases e
    · exact h
  rw [hn] at hn'
  cases hn'
  rw [ea] at e1
  cases e1
  rw [eb] at e2
  cases e2
  have hsub : ∀ c ∈ leastB cs (a ++ b), c ∈ leastB cs a ∨ c ∈ leastB cs b := fun c hc => by
    obtain ⟨h1, h2⟩ := least_mem.1 hc
    rcases List.mem_append.1 h1 with h1 | h1
    · exact .inl (least_mem.2 ⟨h1, fun d hd => h2 d (List.mem_append_left _ hd)⟩)
    · exact .inr (least_mem.2 ⟨h1, fun d hd => h2 d (List.mem_append_right _ hd)⟩)
  have sm : ∀ c ∈ leastB cs (a ++ b), ∃ b, findA ars t c = some b := fun c hc => (hsub c hc).elim (s1 c) (s2 c)
  obtain ⟨n3, z, hn3, e3, _, len3, g3⟩ : ∃ n l, args? ts t = some n ∧ needB cs ts ars t (leastB cs (a ++ b)) = some l ∧ (∀ c ∈ leastB cs (a ++ b), ∃ b, findA ars t c = some b) ∧ l.length = n.toNat ∧ ∀ j, j < n.toNat → l[j]? = some (leastB cs (rows ars t (leastB cs (a ++ b)) j)) := by
    rcases hT.need t (leastB cs (a ++ b)) with ⟨e, h | ⟨c, hc, h⟩⟩ | h
    · rw [hn] at h; cases h
    · obtain ⟨b', hb'⟩ := sm c hc
      rw [hb'] at h; cases h
    · exact h
  rw [hn] at hn3
  cases hn3
  have hA : argsB cs ts ars t (leastB cs (a ++ b)) = if z.any (fun x => decide (20 < x.length)) then ([], 5) else (z, 0) := by
    unfold argsB
    rw [if_neg (fun e => e hck), hn, if_neg (show ¬ (some n : Option Int).isNone = true from fun e => Bool.noConfusion e), enm, if_neg (fun e => e rfl), e3]
  rw [hA]
  refine ⟨by rw [len1, len2], ?_⟩
  cases hz : z.any (fun x => decide (20 < x.length)) with
  | true => exact ⟨.inr rfl, fun h => absurd (show (5 : Int) = 0 from h) (by decide), fun i q hq => by rw [if_pos rfl] at hq; simp at hq⟩
  | false =>
    rw [if_neg (by decide)]
    refine ⟨.inl rfl, fun _ => by show z.length = x.length; rw [len3, len1], fun i q hq => ?_⟩
    replace hq : z[i]? = some q := hq
    have hi : i < n.toNat := by rw [← len3]; exact (List.getElem?_eq_some_iff.1 hq).1
    have hql : q.length ≤ 20 := by
      have := List.any_eq_false.1 hz q (List.mem_of_getElem? hq)
      simpa using this
    rw [g3 i hi] at hq
    obtain rfl := Option.some.inj hq
    refine ⟨_, _, g1 i hi, g2 i hi, ?_, ?_⟩
    · have kx := hT.rows_known t (leastB cs a) i
      have ky := hT.rows_known t (leastB cs b) i
      have kz := hT.rows_known t (leastB cs (a ++ b)) i
      have nx := norm_of h0 (la _ (List.mem_of_getElem? (g1 i hi))) (least_known kx)
      have ny := norm_of h0 (lb _ (List.mem_of_getElem? (g2 i hi))) (least_known ky)
      have kxy : knownB cs (leastB cs (rows ars t (leastB cs a) i) ++ leastB cs (rows ars t (leastB cs b) i)) = true := by rw [known_app, least_known kx, least_known ky]; rfl
      have hE : leastB cs (leastB cs (rows ars t (leastB cs a) i) ++ leastB cs (rows ars t (leastB cs b) i)) = leastB cs (rows ars t (leastB cs (a ++ b)) i) := by
        have hs := least_same hR kxy kz
        have w1 : withinB cs (leastB cs (rows ars t (leastB cs a) i) ++ leastB cs (rows ars t (leastB cs b) i)) (rows ars t (leastB cs (a ++ b)) i) = true := within_iff.2 fun p hp => by
          obtain ⟨c, hc, hpc⟩ := rows_mem.1 hp
          rcases hsub c hc with h | h
          · obtain ⟨d, hd, hdp⟩ := within_iff.1 (least_within hR kx (fun x (hx : x ∈ rows ars t (leastB cs a) i) => hx)) p (rows_mem.2 ⟨c, h, hpc⟩)
            exact ⟨d, List.mem_append_left _ hd, hdp⟩
          · obtain ⟨d, hd, hdp⟩ := within_iff.1 (least_within hR ky (fun x (hx : x ∈ rows ars t (leastB cs b) i) => hx)) p (rows_mem.2 ⟨c, h, hpc⟩)
            exact ⟨d, List.mem_append_right _ hd, hdp⟩
        have m1 : withinB cs (leastB cs (a ++ b)) (leastB cs a) = true := within_iff.2 fun p hp => within_iff.1 (least_within hR kab (fun x (hx : x ∈ a ++ b) => hx)) p (List.mem_append_left _ (least_sub hp))
        have m2 : withinB cs (leastB cs (a ++ b)) (leastB cs b) = true := within_iff.2 fun p hp => within_iff.1 (least_within hR kab (fun x (hx : x ∈ a ++ b) => hx)) p (List.mem_append_right _ (least_sub hp))
        have w2 : withinB cs (rows ars t (leastB cs (a ++ b)) i) (leastB cs (rows ars t (leastB cs a) i) ++ leastB cs (rows ars t (leastB cs b) i)) = true := within_iff.2 fun p hp => by
          rcases List.mem_append.1 hp with h | h
          · exact within_iff.1 (hT.within (j := i) sm m1) p (least_sub h)
          · exact within_iff.1 (hT.within (j := i) sm m2) p (least_sub h)
        rw [w1, w2] at hs
        exact of_decide_eq_true hs.symm
      unfold meetB
      rw [nx, ny, if_neg (fun e => e rfl), if_neg (fun e => e rfl), hE, if_neg (by omega)]
    · intro hl
      unfold lessB at hl ⊢
      rw [Bool.and_eq_true, Bool.and_eq_true] at hl
      have kx := least_known (hT.rows_known t (leastB cs a) i)
      have ky := least_known (hT.rows_known t (leastB cs b) i)
      rw [decide_eq_true h0, known_app, kx, ky]
      simp only [Bool.true_and]
      have hab : withinB cs (leastB cs a) (leastB cs b) = true := within_trans (least_within hR ka (fun x hx => hx)) (within_trans hl.2.2 (within_sub fun x hx => least_sub hx))
      exact within_trans (least_within hR (hT.rows_known t (leastB cs a) i) (fun x hx => hx)) (within_trans (hT.within (j := i) s1 hab) (within_sub fun x hx => least_sub hx))
end
end Go.Proofs.YthfomoigaoffgaaGreat.O
namespace Go.Proofs.YthfomoigaoffgaaGreat.O
set_option linter.unusedSimpArgs false
set_option linter.unusedVariables false
open Go Go.Proofs.YthfomoigaoffgaaGreat.Ix Go.Proofs.YthfomoigaoffgaaGreat.Nd

/-- row by row, the least of both -/
def zipL (cs : List Cl) : List (List ByteArray) → List (List ByteArray) → List (List ByteArray)
  | o :: os, x :: xs => leastB cs (o ++ x) :: zipL cs os xs
  | os, _ => os
theorem zipL_len (cs : List Cl) : ∀ (os xs : List (List ByteArray)), (zipL cs os xs).length = os.length
  | [], [] => rfl
  | [], _ :: _ => rfl
  | _ :: _, [] => rfl
  | _ :: os, _ :: xs => by rw [zipL, List.length_cons, List.length_cons, zipL_len cs os xs]
theorem zipL_nil (cs : List Cl) (os : List (List ByteArray)) : zipL cs os [] = os := by cases os <;> rfl
theorem zipL_get (cs : List Cl) : ∀ (os xs : List (List ByteArray)) (j : Nat), (zipL cs os xs)[j]? = (os[j]?).map (fun o => match xs[j]? with | none => o | some x => leastB cs (o ++ x))
  | [], [], j => rfl
  | [], _ :: _, j => rfl
  | o :: os, [], j => by
    rw [zipL_nil]
    cases (o :: os)[j]? <;> simp
  | o :: os, x :: xs, 0 => rfl
  | o :: os, x :: xs, j + 1 => by
    rw [zipL, List.getElem?_cons_succ, List.getElem?_cons_succ, List.getElem?_cons_succ]
    exact zipL_get cs os xs j
/-- a step of it: the first j are done -/
theorem zipL_step (cs : List Cl) (os xs : List (List ByteArray)) (j : Nat) (hj : j < xs.length) (h : j < os.length) : zipL cs os (xs.take (j + 1)) = (zipL cs os (xs.take j)).set j (leastB cs (os[j]'h ++ xs[j]'hj)) := by
  refine List.ext_getElem? fun i => ?_
  rw [List.getElem?_set, zipL_get, zipL_len, zipL_get]
  by_cases hij : j = i
  · subst hij
    rw [if_pos rfl, if_pos h, List.getElem?_take, if_pos (by omega), List.getElem?_eq_getElem hj, List.getElem?_eq_getElem h]
    rfl
  · rw [if_neg hij, List.getElem?_take, List.getElem?_take]
    by_cases h1 : i < j
    · rw [if_pos (by omega), if_pos h1]
    · rw [if_neg (by omega), if_neg h1]
theorem zipL_at (cs : List Cl) (os xs : List (List ByteArray)) (j : Nat) (h : j < os.length) (h2 : j < (zipL cs os (xs.take j)).length) : (zipL cs os (xs.take j))[j]'h2 = os[j]'h := by
  have e := zipL_get cs os (xs.take j) j
  rw [List.getElem?_eq_getElem h2, List.getElem?_eq_getElem h, List.getElem?_take, if_neg (Nat.lt_irrefl j)] at e
  exact Option.some.inj e
/-- the reference's: the least at each step -/
def rgather (cs : List Cl) (ars : List Arx) (t : ByteArray) : List ByteArray → List (List ByteArray) → Option (List (List ByteArray))
  | [], out => some out
  | c :: r, out => match findA ars t c with
    | none => none
    | some b => rgather cs ars t r (zipL cs out b.2.2)
def rneedB (cs : List Cl) (ts : List Td) (ars : List Arx) (t : ByteArray) (s : List ByteArray) : Option (List (List ByteArray)) := match args? ts t with
  | none => none
  | some n => rgather cs ars t s (List.replicate n.toNat [])
theorem least_app {cs : List Cl} (hR : Right [] cs) {o x : List ByteArray} (ho : knownB cs o = true) (hx : knownB cs x = true) : leastB cs (leastB cs o ++ x) = leastB cs (o ++ x) := by
  have k1 : knownB cs (leastB cs o ++ x) = true := by rw [known_app, least_known ho, hx]; rfl
  have k2 : knownB cs (o ++ x) = true := by rw [known_app, ho, hx]; rfl
  have hs := least_same hR k1 k2
  have w1 : withinB cs (leastB cs o ++ x) (o ++ x) = true := within_iff.2 fun p hp => by
    rcases List.mem_append.1 hp with h | h
    · obtain ⟨d, hd, e⟩ := within_iff.1 (least_within hR ho (fun y (hy : y ∈ o) => hy)) p h
      exact ⟨d, List.mem_append_left _ hd, e⟩
    · exact ⟨p, List.mem_append_right _ h, below_refl cs p⟩
  have w2 : withinB cs (o ++ x) (leastB cs o ++ x) = true := within_sub fun p hp => by
    rcases List.mem_append.1 hp with h | h
    · exact List.mem_append_left _ (least_sub h)
    · exact List.mem_append_right _ h
  rw [w1, w2] at hs
  exact of_decide_eq_true hs.symm
theorem zipL_map {cs : List Cl} (hR : Right [] cs) : ∀ (os xs : List (List ByteArray)), (∀ o ∈ os, knownB cs o = true) → (∀ x ∈ xs, knownB cs x = true) → zipL cs (os.map (leastB cs)) xs = (zipA os xs).map (leastB cs)
  | [], [], _, _ => rfl
  | [], _ :: _, _, _ => rfl
  | _ :: _, [], _, _ => rfl
  | o :: os, x :: xs, ho, hx => by
    rw [List.map_cons, zipL, zipA, List.map_cons, least_app hR (ho o (List.mem_cons_self ..)) (hx x (List.mem_cons_self ..)), zipL_map hR os xs (fun p hp => ho p (List.mem_cons_of_mem _ hp)) (fun p hp => hx p (List.mem_cons_of_mem _ hp))]
theorem zipA_known {cs : List Cl} : ∀ (os xs : List (List ByteArray)), (∀ o ∈ os, knownB cs o = true) → (∀ x ∈ xs, knownB cs x = true) → ∀ o ∈ zipA os xs, knownB cs o = true
  | [], [], _, _ => fun o h => absurd h List.not_mem_nil
  | [], _ :: _, _, _ => fun o h => absurd h List.not_mem_nil
  | _ :: _, [], ho, _ => ho
  | o :: os, x :: xs, ho, hx => fun p hp => by
    rw [zipA] at hp
    rcases List.mem_cons.1 hp with rfl | hp
    · rw [known_app, ho o (List.mem_cons_self ..), hx x (List.mem_cons_self ..)]; rfl
    · exact zipA_known os xs (fun p hp => ho p (List.mem_cons_of_mem _ hp)) (fun p hp => hx p (List.mem_cons_of_mem _ hp)) p hp
section
variable {cs : List Cl} {ts : List Td} {ars : List Arx}
theorem RT.rgather (h : RT cs ts ars) (t : ByteArray) : ∀ (s : List ByteArray) (out : List (List ByteArray)), (∀ o ∈ out, knownB cs o = true) → O.rgather cs ars t s (out.map (leastB cs)) = (gather ars t s out).map (fun l => l.map (leastB cs))
  | [], out, _ => rfl
  | c :: r, out, ho => by
    rw [O.rgather, gather]
    cases hf : findA ars t c with
    | none => rfl
    | some b =>
      have hb := h.known b (Ch.find_mem hf).1
      show O.rgather cs ars t r (zipL cs (out.map (leastB cs)) b.2.2) = (gather ars t r (zipA out b.2.2)).map _
      rw [zipL_map h.right out b.2.2 ho hb]
      exact RT.rgather h t r _ (zipA_known out b.2.2 ho hb)
theorem least_nil (cs : List Cl) : leastB cs [] = [] := rfl
theorem RT.rneed (h : RT cs ts ars) (t : ByteArray) (s : List ByteArray) : rneedB cs ts ars t s = needB cs ts ars t s := by
  unfold rneedB needB
  cases args? ts t with
  | none => rfl
  | some n =>
    have := h.rgather t s (List.replicate n.toNat []) (fun o ho => by rw [List.eq_of_mem_replicate ho]; rfl)
    rw [List.map_replicate, least_nil] at this
    exact this
theorem RT.need_least (h : RT cs ts ars) (t : ByteArray) {s : List ByteArray} (hk : knownB cs s = true) : needB cs ts ars t s = needB cs ts ars t (leastB cs s) := by
  rcases h.need t s with ⟨e, hh⟩ | ⟨n, l, hn, e, hs, hl, hg⟩
  · rcases h.need t (leastB cs s) with ⟨e2, _⟩ | ⟨n, l, hn, e2, hs2, _⟩
    · rw [e, e2]
    · rcases hh with ha | ⟨c, hc, hf⟩
      · rw [hn] at ha; cases ha
      · obtain ⟨d, hd, hdc⟩ := exists_least h.right hk hc
        obtain ⟨b, hb⟩ := hs2 d hd
        obtain ⟨hbm, hb1, hb2⟩ := Ch.find_mem hb
        obtain ⟨b', hb', _⟩ := h.reg b hbm c (by rw [hb2]; exact hdc)
        rw [hb1, hf] at hb'
        cases hb'
  · have s2 : ∀ c ∈ leastB cs s, ∃ b, findA ars t c = some b := fun c hc => hs c (least_sub hc)
    rcases h.need t (leastB cs s) with ⟨e2, ha | ⟨c, hc, hf⟩⟩ | ⟨n2, l2, hn2, e2, _, hl2, hg2⟩
    · rw [hn] at ha; cases ha
    · obtain ⟨b, hb⟩ := s2 c hc
      rw [hf] at hb; cases hb
    · rw [hn] at hn2
      cases hn2
      rw [e, e2]
      congr 1
      refine List.ext_getElem? fun j => ?_
      by_cases hj : j < n.toNat
      · rw [hg j hj, hg2 j hj]
        congr 1
        have hsm := least_same h.right (h.rows_known t s j) (h.rows_known t (leastB cs s) j)
        have w1 : withinB cs (rows ars t s j) (rows ars t (leastB cs s) j) = true := h.within hs (within_sub fun x hx => least_sub hx)
        have w2 : withinB cs (rows ars t (leastB cs s) j) (rows ars t s j) = true := h.within s2 (least_within h.right hk (fun x hx => hx))
        rw [w1, w2] at hsm
        exact of_decide_eq_true hsm.symm
      · rw [List.getElem?_eq_none (by omega), List.getElem?_eq_none (by omega)]
theorem RT.ground_least (h : RT cs ts ars) (d : Nat) {s : List ByteArray} (hk : knownB cs s = true) : groundB cs ts ars d s = groundB cs ts ars d (leastB cs s) := by
  cases d with
  | zero => rfl
  | succ d =>
    rw [groundB, groundB]
    congr 1
    funext t
    exact h.need_least t hk
end
end Go.Proofs.YthfomoigaoffgaaGreat.O
