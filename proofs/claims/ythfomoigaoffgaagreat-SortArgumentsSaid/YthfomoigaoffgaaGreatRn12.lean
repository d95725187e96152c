/- Walk of the reference's Needed. -/
import Derived.Test.YthfomoigaoffgaaGreatOc
import Derived.Test.YthfomoigaoffgaaGreatRc5
import Derived.Test.YthfomoigaoffgaaGreatRf57
import Derived.Test.YthfomoigaoffgaaGreatNd13
import Derived.Deep.RegionHeld3
import Derived.Test.YthfomoigaoffgaaGreatNd45
namespace Go.Proofs.YthfomoigaoffgaaGreat.Rn
open Go Go.RowKit Go.Shelf Go.Proofs.YthfomoigaoffgaaGreat.K Go.Proofs.YthfomoigaoffgaaGreat.G Go.Proofs.YthfomoigaoffgaaGreat.Ix Go.Proofs.YthfomoigaoffgaaGreat.O Go.Proofs.YthfomoigaoffgaaGreat.So Go.Proofs.YthfomoigaoffgaaGreat.Nd
set_option linter.unusedSimpArgs false
set_option linter.unusedVariables false


/-- The operation at a place of a region, so written that it comes out as it stands there. -/
def nth {α : Type} : List α → Nat → Option α
  | [], _ => none
  | x :: _, 0 => some x
  | _ :: l, n + 1 => nth l n
theorem nth_list {α : Type} : ∀ (l : List α) (n : Nat), nth l n = l[n]?
  | [], _ => by simp [nth]
  | x :: l, 0 => by simp [nth]
  | x :: l, n + 1 => by simp [nth, nth_list l n]
theorem nth_at {ops : Array Oper} {i : Nat} {o : Oper} (h : nth ops.toList i = some o) : ops[i]? = some o := by
  rw [nth_list, Array.getElem?_toList] at h
  exact h
section
variable {P : Program} {ops : Array Oper} {Q : Exit → Act → World → Prop} {md : Region.Mode} {S : World → Prop}
/-- an operation that is wanted and yields, taken first -/
theorem take1 {i : Nat} {oi : Oper} {v : Value} {fuel : Nat} {listed : Array Bool} {a : Act} {w : World} (hi : nth ops.toList i = some oi)
    (hs : Region.noSelect ops = true) (hf : Region.free md ops listed i = true) (hr : (Region.ready md ops listed).contains i = true)
    (hQ : ∀ c a w, Q (.panic c) (a.put oi.dst v) w → Q (.panic c) a w) (hw : Region.wanted oi (yielded ops a.tmps) = true) (hS : S w) (hy : ∀ w, S w → (execOp a.eval oi).run P w = .ok (.value v) w)
    (h : wpAnyH P md ops Q S fuel (listed.setIfInBounds i true) (a.put oi.dst v) w) : wpAnyH P md ops Q S (fuel + 1) listed a w :=
  wpAnyH_take (nth_at hi) hs hf hr hQ (Or.inl ⟨hw, hy⟩) hS h
end
/-! ### rows of one's own, of any kind of element -/
theorem append_gen {α : Type} {d : Rd α} {base t e bytes : Nat} {zc : Value} {S S' : Nat → Prop} {w : World} {v : Value} {xs ys : List α} {A : Option Addr} {c : Nat} (ht : Tryz.prog.underlying t = some (.slice e)) (hinfo : (Tryz.prog.info? e).map (fun i => (i.zero, i.size, i.bytes)) = some (some zc, d.sz, bytes)) (hzs : zc.cells.size = d.sz) (hsz : 0 < d.sz) (hby : bytes ≤ 1000)
    (h : Mine d base S w v xs) (hC : C d S' w A ys) (hS : ∀ k, S' k → S k ∧ v.ownBlock ≠ some k) (hl : xs.length + ys.length ≤ 100000000) (hbase : base ≤ w.heap.size) :
    ∃ A' n' c' w', (Builtin.append_ #[t, t] t #[v, .slice A ys.length c]).run Tryz.prog w = .ok (.slice A' n' c') w' ∧ n' = (xs ++ ys).length ∧ Mine d base S w' (.slice A' n' c') (xs ++ ys) ∧ w.grownBy w' v.ownBlock ∧ ∀ k, (Value.slice A' n' c').ownBlock = some k → v.ownBlock = some k ∨ w.heap.size ≤ k := by
  obtain ⟨i0, hi0, hz0, hz1, hz2⟩ := info_parts hinfo
  by_cases hy : ys = []
  · subst hy
    obtain ⟨A1, cap, rfl, hle⟩ := h.form
    exact ⟨A1, _, cap, w, So.append_none w _ _ _ i0 ht hi0 A1 A _ cap c hle, by rw [List.append_nil], by rw [List.append_nil]; exact h, World.grownBy.refl w _, fun k e => .inl e⟩
  · obtain ⟨b, o, rfl, hSb, _, hcc⟩ := hC.2 hy
    have hcs : Cells d (fun k => S k ∧ v.ownBlock ≠ some k) w b o ys := fun j x hj => by
      obtain ⟨cs, hk, hc⟩ := hcc j x hj
      exact ⟨cs, d.mono hS hk, hc⟩
    have hb9 : (xs.length + ys.length) * bytes ≤ 100000000 * 1000 := Nat.mul_le_mul hl hby
    obtain ⟨v', w', hrun, ho, hg, hb⟩ := h.append (P := Tryz.prog) (t := t) (ty := t) (bytes := bytes) (c2 := c) ht hi0 hz0 hz1 hz2 hzs hsz rfl hy hcs (by unfold maxLen; omega) (by omega) hbase
    obtain ⟨A', c', ev, _⟩ := ho.form
    subst ev
    refine ⟨A', _, c', w', hrun, rfl, ho, hg, fun k e => ?_⟩
    rcases hb with h1 | h1
    · rw [h1] at e; exact .inl e
    · rw [h1] at e; cases e; exact .inr (Nat.le_refl _)
theorem mine_empty {α : Type} (d : Rd α) {base g : Nat} {S : Nat → Prop} {w : World} (hb : base ≤ g) (hg : g < w.heap.size) : Mine d base S w (.slice (some ⟨g, 0, none⟩) 0 0) [] :=
  ⟨_, 0, rfl, Nat.le_refl _, Nat.zero_le _, .inr ⟨g, 0, rfl, hb, hg, fun j hj => by rw [Nat.zero_mul] at hj; exact absurd hj (Nat.not_lt_zero _), Cells.nil d _ w g 0⟩⟩
theorem wp_append_run {P : Program} {o : Oper} {a : Act} {w : World} {K : Act → World → Prop} {Q : Exit → Act → World → Prop} (s x : Operand) (t : TypeId)
    (hop : o.op = Op.call { callee := Callee.builtin Builtin.append, args := #[s, x], argTypes := #[t, t] }) (v vx : Value) (hs : a.eval s = v) (hx : a.eval x = vx) (v' : Value) (w' : World)
    (hrun : (Builtin.append_ #[t, t] o.type #[v, vx]).run P w = .ok v' w') (hK : K (a.put o.dst v') w') : Oper.wp P o a w K Q := by
  subst hs hx
  unfold Oper.wp
  simp [execOp, hop, resolve, invoke, builtin, hrun, Result.andThen]
  exact hK
/-- rows from a place on, in a row of one's own -/
abbrev Rows (base : Nat) (W : World) (v : Value) (out : List (List ByteArray)) : Prop := Mine (slice str) base (fun k => base ≤ k) W v out
/-- one empty row more, laid anew -/
theorem push_row {base : Nat} {W : World} {A : Option Addr} {n c : Nat} {out : List (List ByteArray)} (h : Rows base W (.slice A n c) out) (hn : out.length = n) (hb : base ≤ W.heap.size) (hs : n ≤ 1000000) :
    ∃ A' c' w1, (Builtin.append_ #[34, 34] 34 #[.slice A n c, .slice (some ⟨W.heap.size + 1, 0, none⟩) 1 1]).run Tryz.prog ((W.alloc (.cells #[] 9)).alloc (.cells #[.slice (some ⟨W.heap.size, 0, none⟩) 0 0] 27)) = .ok (.slice A' (n + 1) c') w1 ∧ Rows base w1 (.slice A' (n + 1) c') (out ++ [[]]) ∧ Below base W w1 := by
  have hwa : Below W.heap.size W (W.alloc (.cells #[] 9)) := (Below.refl _ _).alloc (Nat.le_refl _) _
  have hwb : Below W.heap.size W ((W.alloc (.cells #[] 9)).alloc (.cells #[.slice (some ⟨W.heap.size, 0, none⟩) 0 0] 27)) := hwa.alloc hwa.size _
  have hblk := World.alloc_heap_new (W.alloc (.cells #[] 9)) (.cells #[.slice (some ⟨W.heap.size, 0, none⟩) 0 0] 27)
  rw [World.size_alloc] at hblk
  have hC : C (slice str) (fun k => W.heap.size + 1 = k) ((W.alloc (.cells #[] 9)).alloc (.cells #[.slice (some ⟨W.heap.size, 0, none⟩) 0 0] 27)) (some ⟨W.heap.size + 1, 0, none⟩) [[]] := C.lit [[.slice (some ⟨W.heap.size, 0, none⟩) 0 0]] ⟨⟨_, 0, rfl, Nat.le_refl _, C.nil ..⟩, trivial⟩ hblk rfl (by simp [maxLen])
  obtain ⟨A', n', c', w1, hrun, hn', hm, hg, ho⟩ := append_gen (c := 1) Tryz.underlying34 infoRow rfl (by decide) (by decide) (h.below hwb) hC (fun k hk => ⟨by omega, fun e => by have := (h.base_le e).2; omega⟩) (by simp; omega) (Nat.le_trans hb hwb.size)
  rw [List.length_append, hn] at hn'
  have hn2 : n' = n + 1 := hn'
  subst hn2
  exact ⟨A', c', w1, hrun, hm, (hwb.mono hb).trans ((Chg.grown hg (fun k e => .inl e) (T := fun k => (Value.slice A n c).ownBlock = some k)).below (Nat.le_trans hb hwb.size) (fun k e => (h.base_le e).1))⟩
/-- a row is put in place of another -/
theorem rows_set {base : Nat} {W : World} {A : Option Addr} {n c : Nat} {out : List (List ByteArray)} (h : Rows base W (.slice A n c) out) {i : Nat} (hi : i < out.length) {A' : Option Addr} {m c' B : Nat} {y : List ByteArray} (hm : Mine str B NoB W (.slice A' m c') y) (hB : base ≤ B) (hne : ∀ k, (Value.slice A n c).ownBlock = some k → k < B) :
    ∃ b o, A = some ⟨b, o, none⟩ ∧ base ≤ b ∧ b < W.heap.size ∧ W.frozen? ⟨b, o + i, none⟩ = false ∧ (∃ u, W.cell? ⟨b, o + i, none⟩ = some u) ∧ Rows base (W.setCell ⟨b, o + i, none⟩ (.slice A' m c')) (.slice A n c) (out.set i y) := by
  obtain ⟨A2, cap, e, h1, h2, h3⟩ := h
  injection e with e1 e2 e3
  subst e1; subst e2; subst e3
  have hmr := hm.read
  rcases h3 with ⟨rfl, rfl⟩ | ⟨g, o, rfl, hg, hl, hcell, hcs⟩
  · omega
  · have hz : (slice str).sz = 1 := rfl
    have hgB := hne g rfl
    have hsome := (hcell i (by rw [hz]; omega)).1
    have hsame : (W.setCell ⟨g, o + i, none⟩ (.slice A' m c')).cell? ⟨g, o + i, none⟩ = some (.slice A' m c') := World.cell?_setCell_same' _ _ _ hsome
    have hoth : ∀ j, j ≠ i → (W.setCell ⟨g, o + i, none⟩ (.slice A' m c')).cell? ⟨g, o + j, none⟩ = W.cell? ⟨g, o + j, none⟩ := fun j hj => World.cell?_setCell_other _ _ _ _ (by intro e'; simp only [Addr.mk.injEq] at e'; omega)
    have hch : Chg (fun k => k = g) W (W.setCell ⟨g, o + i, none⟩ (.slice A' m c')) := Chg.setCell (T := fun k => k = g) (p := ⟨g, o + i, none⟩) rfl _
    refine ⟨g, o, rfl, hg, hl, (hcell i (by rw [hz]; omega)).2, Option.isSome_iff_exists.1 hsome, some ⟨g, o, none⟩, c, by rw [List.length_set], by rw [List.length_set]; exact h1, h2, .inr ⟨g, o, rfl, hg, by simpa using hl, fun j hj => ⟨?_, ?_⟩, fun j x hj => ?_⟩⟩
    · by_cases e : j = i
      · subst e; rw [hsame]; rfl
      · rw [hoth j e]; exact (hcell j hj).1
    · rw [World.frozen?_setCell]; exact (hcell j hj).2
    · have hjl : j < out.length := by have := (List.getElem?_eq_some_iff.1 hj).1; rwa [List.length_set] at this
      by_cases e : j = i
      · subst e
        rw [List.getElem?_set_self hjl] at hj
        cases hj
        refine ⟨[.slice A' m c'], ⟨A', c', by rw [hmr.1], by rw [← hmr.1]; exact hmr.2.1, (hmr.2.2.mono (S' := fun k => base ≤ k ∧ k ≠ g) (fun k hk => hk.elim False.elim (fun e => by
          have h5 := (hm.base_le (show (Value.slice A' m c').ownBlock = some k by cases A' with | none => cases e | some _ => simpa [Value.ownBlock] using e)).1
          exact ⟨by omega, by omega⟩))).chg hch (fun k hk _ => hk.2)⟩, fun q u hu => ?_⟩
        cases q with
        | zero =>
          simp only [List.getElem?_cons_zero, Option.some.injEq] at hu
          subst hu
          rw [hz, Nat.mul_one, Nat.add_zero]
          exact hsame
        | succ q => simp at hu
      · rw [List.getElem?_set_ne (Ne.symm e)] at hj
        obtain ⟨cs, hK, hc⟩ := hcs j x hj
        have hlen := (slice str).len hK
        refine ⟨cs, (slice str).chg hK hch (fun k hk _ => hk.2), fun q u hu => ?_⟩
        have hq : q = 0 := by have := (List.getElem?_eq_some_iff.1 hu).1; rw [hlen, hz] at this; omega
        subst hq
        rw [← hc 0 u hu, hz, Nat.mul_one, Nat.add_zero]
        exact hoth j e
/-- what the reference's Needed returns -/
def RNdEnd (w : World) (R : Option (List (List ByteArray))) (e : Ending) (w' : World) : Prop :=
  (match R with
    | none => e = .returned (.tuple #[.slice none 0 0, .bool false])
    | some l => ∃ A c, e = .returned (.tuple #[.slice A l.length c, .bool true]) ∧ l.length ≤ c ∧ C (slice str) (fun _ => True) w' A l) ∧ Below w.heap.size w w'
/-- the rows so far: of classes that are known, and not too long -/
def Kn (cs : List Cl) (k : Nat) (out : List (List ByteArray)) : Prop := ∀ o ∈ out, knownB cs o = true ∧ o.length ≤ k * 20
theorem Kn.zip {cs : List Cl} {k : Nat} : ∀ {out bs : List (List ByteArray)}, Kn cs k out → (∀ x ∈ bs, knownB cs x = true ∧ x.length ≤ 20) → Kn cs (k + 1) (zipL cs out bs)
  | [], [], _, _ => fun o h => absurd h List.not_mem_nil
  | [], _ :: _, _, _ => fun o h => absurd h List.not_mem_nil
  | _ :: _, [], h, _ => fun o ho => ⟨(h o ho).1, by have := (h o ho).2; omega⟩
  | o :: os, b :: bs, h, hb => fun x hx => by
    rw [zipL] at hx
    rcases List.mem_cons.1 hx with rfl | hx
    · have h1 := h o (List.mem_cons_self ..)
      have h2 := hb b (List.mem_cons_self ..)
      refine ⟨least_known (by rw [known_app, h1.1, h2.1]; rfl), ?_⟩
      have := least_len (cs := cs) (s := o ++ b)
      rw [List.length_append] at this
      omega
    · exact Kn.zip (fun z hz => h z (List.mem_cons_of_mem _ hz)) (fun z hz => hb z (List.mem_cons_of_mem _ hz)) x hx

set_option maxRecDepth 100000 in
set_option maxHeartbeats 8000000 in
theorem rneeded_calls (S Ss : Nat → Prop) (r : Raw) (T : Thy) (t : ByteArray) (A : Option Addr) (c : Nat) (s : List ByteArray) (w : World) (hT : ThyR S w r T) (hok : NeedOk T) (hRT : RT T.cls T.tys T.ars) (hC : C str Ss w A s) (hl : s.length ≤ 25) :
    Calls Tryz.prog 27 #[thyV r T, .string t, .slice A s.length c] w (RNdEnd w (needB T.cls T.tys T.ars t s)) := by
  rw [← hRT.rneed]
  obtain ⟨nm, a1, c1, a2, c2, a3, c3, a4, n4, c4, a5, n5, c5, a6, n6, c6⟩ := r
  have HT := Lib.hid hT
  have HC := Lib.hid hC
  have HOk := Lib.hid hok
  have HRT := Lib.hid hRT
  have HTy := Lib.hid (fun (W : World) (hb : Below w.heap.size w W) => Rc.Type_calls S _ T W (hT.below hb) t)
  have HAr := Lib.hid (fun (W : World) (hb : Below w.heap.size w W) x => Rc.arity_calls S _ T W (hT.below hb) t x)
  have HLe := Lib.hid (fun (W : World) (hb : Below w.heap.size w W) A c x (Sx : Nat → Prop) hC hk hl => Rf.least_calls S Sx _ T A c x W (hT.below hb) hRT.right (Rf.classes_small hRT.cls) hC hk hl)
  have HCt := Lib.hid (show C kTd S w a2 T.tys from hT.tys)
  have HCa := Lib.hid (show C kAr S w a3 T.ars from hT.ars)
  have hl1 : T.tys.length ≤ 9223372036854775807 := hT.tys.len
  have hl2 : T.ars.length ≤ 9223372036854775807 := hT.ars.len
  have hsl : s.length ≤ 9223372036854775807 := by omega
  have hag := Tryz.isAgg29
  have hsz := Tryz.sizeOf29
  have HST := Lib.hid (St.first w ⟨nm, a1, c1, a2, c2, a3, c3, a4, n4, c4, a5, n5, c5, a6, n6, c6⟩ T)
  obtain ⟨z0, z1, z2, z3, z4, z5, z6⟩ := thy_cells HST.out.copy
  dsimp only at z0 z1 z2 z3 z4 z5 z6
  have HT1 := Lib.hid (HTy.out _ HST.out.below)
  have Hidx := Lib.hid (tidx_cases T.tys t)
  generalize hRR : rneedB T.cls T.tys T.ars t s = R
  have HR := Lib.hid hRR
  generalize tidx T.tys t = ti at HT1 Hidx
  clear hT hC hok hRR hRT
  unfold thyV thyC at HT1 HAr HLe
  unfold thyV
  dsimp only at HT1 HAr HLe ⊢
  go_enter Tryz.func27, Tryz.ntmps27
  go_wp2_with fail
  refine HT1.out.mono ?_
  rintro e w2 ⟨rfl, hb2⟩
  have HS2 := Lib.hid (HST.out.step hb2)
  clear hb2 z0 z1 z2 z3 z4 z5 z6 HT1 HTy HST
  rcases Hidx.out with ⟨rfl, e2⟩ | ⟨k, hk, rfl, e2⟩
  · obtain rfl : none = R := by have := HR.out; unfold rneedB at this; rw [e2] at this; exact this
    clear Hidx HR e2
    go_wp2
    go_ret2
    exact ⟨rfl, HS2.out.below⟩
  · have hd := HOk.out.tys _ (List.getElem_mem hk)
    have hkz : (k : Int) < (T.tys.length : Int) := by omega
    have hk0 : ¬ (k : Int) < 0 := by omega
    have hk0' : (0 : Int) ≤ (k : Int) := by omega
    obtain ⟨b2, o2, rfl, hbw2, _, p1⟩ := Ch.td_at HCt.out k hk
    have HQ1 := Lib.hid (fun (W : World) (hb : Below w.heap.size w W) => (hb.cell (p := ⟨b2, o2 + k * 2 + 1, none⟩) hbw2).trans p1)
    have Hlen := Lib.hid (fun a (ha : a ∈ T.ars) (e : a.1 = t) => HOk.out.len a ha _ (by rw [e]; exact e2))
    generalize (T.tys[k]'hk).2 = n0 at hd p1 e2 Hlen HQ1
    obtain ⟨n, rfl⟩ : ∃ n : Nat, n0 = (n : Int) := ⟨n0.toNat, by omega⟩
    have hn10 : n ≤ 10 := by omega
    have hRg : rgather T.cls T.ars t (s.drop 0) (List.replicate n []) = R := by have := HR.out; unfold rneedB at this; rw [e2] at this; simpa using this
    have HG := Lib.hid hRg
    have hgl := HS2.out.lt
    have hb3 : Below w2.heap.size w2 (w2.alloc (.cells #[] 27)) := (Below.refl _ _).alloc (Nat.le_refl _) _
    have HS3 := Lib.hid (HS2.out.step hb3)
    have HM3 : Hid (Rows (w.heap.size + 1) (w2.alloc (.cells #[] 27)) (.slice (some ⟨w2.heap.size, 0, none⟩) 0 0) (List.replicate 0 [])) := Lib.hid (mine_empty _ (by omega) (by simp))
    clear hd p1 e2 hbw2 Hidx hb3 hRg HR
    go_wp2_with fail
    go_loopg [9, 10] n (fun gg v9 v10 wr => ∃ (i : Nat) (A9 : Option Addr) (c9 : Nat), v9 = .slice A9 i c9 ∧ v10 = .int .i64 i ∧ i ≤ n ∧ n - i ≤ gg ∧ Hid (Rows (w.heap.size + 1) wr (.slice A9 i c9) (List.replicate i [])) ∧ Hid (St w ⟨nm, a1, c1, some ⟨b2, o2, none⟩, c2, a3, c3, a4, n4, c4, a5, n5, c5, a6, n6, c6⟩ T wr))
    case atStart => exact ⟨0, _, _, rfl, rfl, by omega, by omega, HM3, HS3⟩
    case round =>
      clear HM3 HS3
      obtain ⟨i, A9, c9, rfl, rfl, hi, hg, HM, HS⟩ := hrel
      have q1 := HQ1.out _ HS.out.below
      obtain ⟨z0, z1, z2, z3, z4, z5, z6⟩ := thy_cells HS.out.copy
      dsimp only at z0 z1 z2 z3 z4 z5 z6
      by_cases hlt : i < n
      · have hltz : (i : Int) < (n : Int) := by omega
        have Hlt := Lib.hid hlt
        obtain ⟨A', c', w', hrun, hm', hbl⟩ := push_row HM.out (by simp) HS.out.lt (by omega)
        rw [← List.replicate_succ'] at hm'
        have HRun := Lib.hid hrun
        have HM2 := Lib.hid hm'
        have HS2' := Lib.hid (HS.out.stepC hbl (Nat.lt_succ_self _) HS.out.lt)
        clear hrun hm' hbl
        go_wp2_with (at_builtin; refine G.wpList_append_run rfl _ _ _ rfl _ _ rfl rfl _ _ HRun.out ?_)
        go_roundg (n - (i + 1))
        case measure => omega
        case rel => exact ⟨i + 1, A', c', rfl, by go_num, Hlt.out, Nat.le_refl _, HM2, HS2'⟩
      · have hltz : ¬ (i : Int) < (n : Int) := by omega
        obtain rfl : i = n := by omega
        have HK0 : Hid (Kn T.cls 0 (List.replicate i [])) := Lib.hid (fun o ho => by rw [List.eq_of_mem_replicate ho]; exact ⟨rfl, Nat.zero_le _⟩)
        have Hrl : Hid ((List.replicate i ([] : List ByteArray)).length = i) := Lib.hid (by simp)
        clear hlt
        go_wp2
        clear z0 z1 z2 z3 z4 z5 z6 q1 hltz hg
        obtain ⟨W0, hW0⟩ : ∃ W0, W0 = wr := ⟨_, rfl⟩
        subst hW0
        go_loopg [11] s.length (fun gg v11 wr => ∃ (j : Nat) (out : List (List ByteArray)), v11 = .int .i64 j ∧ j ≤ s.length ∧ s.length - j ≤ gg ∧ Hid (out.length = i) ∧ Hid (Kn T.cls j out) ∧ Hid (rgather T.cls T.ars t (s.drop j) out = R) ∧ Hid (Rows (w.heap.size + 1) wr (.slice A9 i c9) out) ∧ Hid (St w ⟨nm, a1, c1, some ⟨b2, o2, none⟩, c2, a3, c3, a4, n4, c4, a5, n5, c5, a6, n6, c6⟩ T wr))
        case atStart => exact ⟨0, _, rfl, by omega, by omega, Hrl, HK0, HG, HM, HS⟩
        case round =>
          clear HM HS HK0 HG Hrl
          obtain ⟨j, out, rfl, hj, hg, Hol, HK, HG, HM, HS⟩ := hrel
          by_cases hlt : j < s.length
          · have hltz : (j : Int) < (s.length : Int) := by omega
            have hj0 : (0 : Int) ≤ (j : Int) := by omega
            have Hlt := Lib.hid hlt
            obtain ⟨bs, os, rfl, _, _, q0⟩ := str_at (HC.out.below HS.out.below) j hlt
            have hG := HG.out
            rw [List.drop_eq_getElem_cons hlt, rgather] at hG
            generalize s[j]'hlt = x at q0 hG
            have HA1 := Lib.hid (fun W hb => HAr.out W hb x)
            have Hai := Lib.hid (aidx_cases T.ars t x)
            generalize aidx T.ars t x = ai at HA1 Hai
            have HG2 := Lib.hid hG
            obtain ⟨z0, z1, z2, z3, z4, z5, z6⟩ := thy_cells HS.out.copy
            dsimp only at z0 z1 z2 z3 z4 z5 z6
            have hs0 := HS.out.below
            clear hG HG hlt
            go_upto_region 12 with fail
            go_region_with (go_at_call 52; refine (HA1.out _ (Rf.below_drew1 hs0)).mono ?_; rintro e w4 ⟨rfl, hb4⟩; have HS4 := Lib.hid (HS.out.step (Rf.undrew hb4)); have HM4 := Lib.hid (HM.out.below (Rf.undrew hb4)); clear hb4)
            all_goals
              clear z0 z1 z2 z3 z4 z5 z6 hs0 q0 HA1
              obtain ⟨z0, z1, z2, z3, z4, z5, z6⟩ := thy_cells HS4.out.copy
              dsimp only at z0 z1 z2 z3 z4 z5 z6
              rcases Hai.out with ⟨rfl, e2⟩ | ⟨q, hq, rfl, e2⟩
              · obtain rfl : none = R := by have := HG2.out; rw [e2] at this; exact this
                clear HG2 Hai e2
                go_wp2
                go_ret2
                exact ⟨rfl, HS4.out.below⟩
              · have hqz : (q : Int) < (T.ars.length : Int) := by omega
                have hq0 : (0 : Int) ≤ (q : Int) := by omega
                have hqn : ¬ (q : Int) < 0 := by omega
                have hmem := List.getElem_mem hq
                have hfm := Ch.find_mem e2
                have hln := Hlen.out _ hmem hfm.2.1
                have hso := HOk.out.sorts _ hmem
                have hkn := HRT.out.known _ hmem
                have hG := HG2.out
                rw [e2] at hG
                obtain ⟨b5, o5, A5, cp5, rfl, hbw5, _, _, qw5, hlc5, hC5⟩ := Ch.ar_at HCa.out q hq
                dsimp only at hG
                generalize (T.ars[q]'hq).2.2 = bs' at hln hso hkn hG qw5 hlc5 hC5
                have hbn : bs'.length = i := by omega
                have HQ5 := Lib.hid (fun (W : World) (hb : Below w.heap.size w W) => (hb.cell (p := ⟨b5, o5 + q * 3 + 2, none⟩) hbw5).trans qw5)
                have HC5 := Lib.hid hC5
                have HBk := Lib.hid (fun x (hx : x ∈ bs') => And.intro (hkn x hx) (hso x hx).1)
                have Hbn := Lib.hid hbn
                have HG3 := Lib.hid hG
                have HN0 : Hid (Rows (w.heap.size + 1) w4 (.slice A9 i c9) (zipL T.cls out (bs'.take 0))) := Lib.hid (by rw [List.take_zero, zipL_nil]; exact HM4.out)
                have hbl : bs'.length ≤ 9223372036854775807 := by omega
                have him : i ≤ 9223372036854775807 := by omega
                clear hln hso hkn hG hC5 qw5 hbn HG2 Hai e2 hfm hmem HM4 HM HS
                go_wp2_with fail
                clear z0 z1 z2 z3 z4 z5 z6
                obtain ⟨W0, hW0⟩ : ∃ W0, W0 = wr := ⟨_, rfl⟩
                subst hW0
                go_loopg [13] i (fun gg v wr => ∃ m : Nat, v = .int .i64 m ∧ m ≤ i ∧ i - m ≤ gg ∧ Hid (Rows (w.heap.size + 1) wr (.slice A9 i c9) (zipL T.cls out (bs'.take m))) ∧ Hid (St w ⟨nm, a1, c1, some ⟨b2, o2, none⟩, c2, some ⟨b5, o5, none⟩, c3, a4, n4, c4, a5, n5, c5, a6, n6, c6⟩ T wr))
                case atStart => exact ⟨0, rfl, by omega, by omega, HN0, HS4⟩
                case round =>
                  clear HN0 HS4
                  obtain ⟨m, rfl, hm, hgm, HM, HS⟩ := hrel
                  by_cases hml : m < i
                  · have hmz : (m : Int) < (i : Int) := by omega
                    have hm0 : (0 : Int) ≤ (m : Int) := by omega
                    have hmb : (m : Int) < (bs'.length : Int) := by have := Hbn.out; omega
                    have Hml := Lib.hid hml
                    have hmo : m < out.length := by have := Hol.out; omega
                    have hmbn : m < bs'.length := by have := Hbn.out; omega
                    have hmz2 : m < (zipL T.cls out (bs'.take m)).length := by rw [zipL_len]; exact hmo
                    have hrd := HM.out.read
                    obtain ⟨bo, oo, Ax, cx, rfl, hbo, q0, hlx, hCx⟩ := Ch.sl_at hrd.2.2 m hmz2
                    have hst := zipL_step T.cls out bs' m hmbn hmo
                    rw [zipL_at _ _ _ _ hmo hmz2] at q0 hlx hCx
                    have hk1 := HK.out _ (List.getElem_mem hmo)
                    have hk2 := HBk.out _ (List.getElem_mem hmbn)
                    obtain ⟨b6, o6, A6, cp6, rfl, hb6, p0, hlc6, hC6⟩ := Ch.sl_at HC5.out m hmbn
                    generalize out[m]'hmo = oj at hst q0 hlx hCx hk1
                    generalize bs'[m]'hmbn = y at hst p0 hlc6 hC6 hk2
                    have hwr := HS.out.below
                    have hwl := HS.out.lt
                    have hKp : ∀ W, St w ⟨nm, a1, c1, some ⟨b2, o2, none⟩, c2, some ⟨b5, o5, none⟩, c3, a4, n4, c4, a5, n5, c5, a6, n6, c6⟩ T W → (W.cell? ⟨w.heap.size, 0, none⟩ = some (.string nm) ∧ W.cell? ⟨w.heap.size, 1, none⟩ = some (.slice a1 T.cls.length c1) ∧ W.cell? ⟨w.heap.size, 2, none⟩ = some (.slice (some ⟨b2, o2, none⟩) T.tys.length c2) ∧ W.cell? ⟨w.heap.size, 3, none⟩ = some (.slice (some ⟨b5, o5, none⟩) T.ars.length c3) ∧
                        W.cell? ⟨w.heap.size, 4, none⟩ = some (.slice a4 n4 c4) ∧ W.cell? ⟨w.heap.size, 5, none⟩ = some (.slice a5 n5 c5) ∧ W.cell? ⟨w.heap.size, 6, none⟩ = some (.slice a6 n6 c6)) ∧ W.cell? ⟨b5, o5 + q * 3 + 2, none⟩ = some (.slice (some ⟨b6, o6, none⟩) bs'.length cp5) ∧ W.cell? ⟨b6, o6 + m, none⟩ = some (.slice A6 y.length cp6) := fun W h => by
                      have h1 := thy_cells h.copy
                      dsimp only at h1
                      exact ⟨h1, HQ5.out _ h.below, (h.below.cell (p := ⟨b6, o6 + m, none⟩) hb6).trans p0⟩
                    have HKp := Lib.hid hKp
                    -- what is made, one after the other
                    have hd : Below wr.heap.size wr wr.drew := ⟨rfl, rfl, rfl, Nat.le_refl _, fun _ _ => rfl⟩
                    have hb1 : Below wr.heap.size wr (wr.drew.alloc (.cells #[] 9)) := hd.alloc (Nat.le_refl _) _
                    have hm1 : Mine str wr.heap.size NoB (wr.drew.alloc (.cells #[] 9)) (.slice (some ⟨wr.heap.size, 0, none⟩) 0 0) [] := mine_empty str (Nat.le_refl _) (by simp)
                    obtain ⟨Ay, ny, cy, w5, hrun1, hm5, hg5⟩ := append_str (c := cx) hm1 (hCx.below hb1) (by simp; omega) (by simp)
                    rw [List.nil_append] at hm5
                    have hny := hm5.read.1
                    subst hny
                    have hb5 : Below wr.heap.size wr w5 := hb1.trans ((Chg.grown hg5 (fun k e => .inl e) (T := fun k => (Value.slice (some ⟨wr.heap.size, 0, none⟩) 0 0).ownBlock = some k)).below (by simp) (fun k e => (hm1.base_le e).1))
                    obtain ⟨Az, nz, cz, w6, hrun2, hm6, hg6⟩ := append_str (c := cp6) hm5 (hC6.below (hwr.trans (hb5.mono hwr.size))) (by omega) hb5.size
                    have hnz := hm6.read.1
                    subst hnz
                    have hb6' : Below wr.heap.size wr w6 := hb5.trans ((Chg.grown hg6 (fun k e => .inl e) (T := fun k => (Value.slice Ay oj.length cy).ownBlock = some k)).below hb5.size (fun k e => (hm5.base_le e).1))
                    have HLx := Lib.hid (HLe.out w6 (hwr.trans (hb6'.mono hwr.size)) Az cz (oj ++ y) _ hm6.read.2.2 (by rw [known_app, hk1.1, hk2.1]; rfl) (by rw [List.length_append]; omega))
                    generalize hL : leastB T.cls (oj ++ y) = L at hst HLx
                    generalize (oj ++ y).length = nz at HLx hrun2
                    have HRun1 := Lib.hid hrun1
                    have HRun2 := Lib.hid hrun2
                    have HSt := Lib.hid hst
                    have hs1 := HS.out.step hb1
                    have hs5 := HS.out.step hb5
                    have hs6 := HS.out.step hb6'
                    have Hb6 := Lib.hid hb6'
                    have q01 : (wr.drew.alloc (.cells #[] 9)).cell? ⟨bo, oo + m, none⟩ = some (.slice Ax oj.length cx) := (hb1.cell (p := ⟨bo, oo + m, none⟩) hbo).trans q0
                    have Hm6 := Lib.hid hm6
                    clear hL hk1 hk2 hlx hCx hlc6 hC6 hrun1 hrun2 hm5 hg5 hm6 hg6 hm1 hb5 hb6' p0 hb6 hd hst hrd hKp hml hmo hmbn hmz2
                    obtain ⟨⟨z0, z1, z2, z3, z4, z5, z6⟩, p5, p6⟩ := HKp.out _ HS.out
                    go_upto_region 18 with fail
                    refine wp_region_held_drew (S := fun W' => W'.cell? ⟨w.heap.size, 0, none⟩ = some (.string nm) ∧ W'.cell? ⟨w.heap.size, 1, none⟩ = some (.slice a1 T.cls.length c1) ∧ W'.cell? ⟨w.heap.size, 2, none⟩ = some (.slice (some ⟨b2, o2, none⟩) T.tys.length c2) ∧ W'.cell? ⟨w.heap.size, 3, none⟩ = some (.slice (some ⟨b5, o5, none⟩) T.ars.length c3) ∧
                        W'.cell? ⟨w.heap.size, 4, none⟩ = some (.slice a4 n4 c4) ∧ W'.cell? ⟨w.heap.size, 5, none⟩ = some (.slice a5 n5 c5) ∧ W'.cell? ⟨w.heap.size, 6, none⟩ = some (.slice a6 n6 c6) ∧ W'.cell? ⟨b5, o5 + q * 3 + 2, none⟩ = some (.slice (some ⟨b6, o6, none⟩) bs'.length cp5) ∧ W'.cell? ⟨b6, o6 + m, none⟩ = some (.slice A6 y.length cp6)) (by kernel_rfl) (by first | exact ⟨z0, z1, z2, z3, z4, z5, z6, p5, p6⟩ | (dsimp only; go_keep) | go_keep) (fun hHeld => ?_)
                    refine take1 (i := 0) (v := ?_) rfl (by kernel_rfl) (by kernel_rfl) (by kernel_rfl) (fun _ _ _ h => h) (by rfl) (by assumption) ?_ ?_
                    rotate_left
                    · (intro w hSw; (try dsimp only at hSw); go_simp) <;> with_reducible rfl
                    try simp only [Act.put, List.setIfInBounds_toArray, List.set_cons_zero, List.set_cons_succ]
                    refine take1 (i := 1) (v := ?_) rfl (by kernel_rfl) (by kernel_rfl) (by kernel_rfl) (fun _ _ _ h => h) (by rfl) (by assumption) ?_ ?_
                    rotate_left
                    · (intro w hSw; (try dsimp only at hSw); go_simp) <;> with_reducible rfl
                    try simp only [Act.put, List.setIfInBounds_toArray, List.set_cons_zero, List.set_cons_succ]
                    refine take1 (i := 2) (v := ?_) rfl (by kernel_rfl) (by kernel_rfl) (by kernel_rfl) (fun _ _ _ h => h) (by rfl) (by assumption) ?_ ?_
                    rotate_left
                    · (intro w hSw; (try dsimp only at hSw); go_simp) <;> with_reducible rfl
                    try simp only [Act.put, List.setIfInBounds_toArray, List.set_cons_zero, List.set_cons_succ]
                    refine take1 (i := 4) (v := ?_) rfl (by kernel_rfl) (by kernel_rfl) (by kernel_rfl) (fun _ _ _ h => h) (by rfl) (by assumption) ?_ ?_
                    rotate_left
                    · (intro w hSw; (try dsimp only at hSw); go_simp) <;> with_reducible rfl
                    try simp only [Act.put, List.setIfInBounds_toArray, List.set_cons_zero, List.set_cons_succ]
                    refine take1 (i := 5) (v := ?_) rfl (by kernel_rfl) (by kernel_rfl) (by kernel_rfl) (fun _ _ _ h => h) (by rfl) (by assumption) ?_ ?_
                    rotate_left
                    · (intro w hSw; (try dsimp only at hSw); go_simp) <;> with_reducible rfl
                    try simp only [Act.put, List.setIfInBounds_toArray, List.set_cons_zero, List.set_cons_succ]
                    refine take1 (i := 6) (v := ?_) rfl (by kernel_rfl) (by kernel_rfl) (by kernel_rfl) (fun _ _ _ h => h) (by rfl) (by assumption) ?_ ?_
                    rotate_left
                    · (intro w hSw; (try dsimp only at hSw); go_simp) <;> with_reducible rfl
                    try simp only [Act.put, List.setIfInBounds_toArray, List.set_cons_zero, List.set_cons_succ]
                    refine take1 (i := 9) (v := ?_) rfl (by kernel_rfl) (by kernel_rfl) (by kernel_rfl) (fun _ _ _ h => h) (by rfl) (by assumption) ?_ ?_
                    rotate_left
                    · (intro w hSw; (try dsimp only at hSw); go_simp) <;> with_reducible rfl
                    try simp only [Act.put, List.setIfInBounds_toArray, List.set_cons_zero, List.set_cons_succ]
                    refine take1 (i := 10) (v := ?_) rfl (by kernel_rfl) (by kernel_rfl) (by kernel_rfl) (fun _ _ _ h => h) (by rfl) (by assumption) ?_ ?_
                    rotate_left
                    · (intro w hSw; (try dsimp only at hSw); go_simp) <;> with_reducible rfl
                    try simp only [Act.put, List.setIfInBounds_toArray, List.set_cons_zero, List.set_cons_succ]
                    refine take1 (i := 11) (v := ?_) rfl (by kernel_rfl) (by kernel_rfl) (by kernel_rfl) (fun _ _ _ h => h) (by rfl) (by assumption) ?_ ?_
                    rotate_left
                    · (intro w hSw; (try dsimp only at hSw); go_simp) <;> with_reducible rfl
                    try simp only [Act.put, List.setIfInBounds_toArray, List.set_cons_zero, List.set_cons_succ]
                    refine take1 (i := 12) (v := ?_) rfl (by kernel_rfl) (by kernel_rfl) (by kernel_rfl) (fun _ _ _ h => h) (by rfl) (by assumption) ?_ ?_
                    rotate_left
                    · (intro w hSw; (try dsimp only at hSw); go_simp) <;> with_reducible rfl
                    try simp only [Act.put, List.setIfInBounds_toArray, List.set_cons_zero, List.set_cons_succ]
                    refine take1 (i := 13) (v := ?_) rfl (by kernel_rfl) (by kernel_rfl) (by kernel_rfl) (fun _ _ _ h => h) (by rfl) (by assumption) ?_ ?_
                    rotate_left
                    · (intro w hSw; (try dsimp only at hSw); go_simp) <;> with_reducible rfl
                    try simp only [Act.put, List.setIfInBounds_toArray, List.set_cons_zero, List.set_cons_succ]
                    refine take1 (i := 14) (v := ?_) rfl (by kernel_rfl) (by kernel_rfl) (by kernel_rfl) (fun _ _ _ h => h) (by rfl) (by assumption) ?_ ?_
                    rotate_left
                    · (intro w hSw; (try dsimp only at hSw); go_simp) <;> with_reducible rfl
                    try simp only [Act.put, List.setIfInBounds_toArray, List.set_cons_zero, List.set_cons_succ]
                    refine take1 (i := 15) (v := ?_) rfl (by kernel_rfl) (by kernel_rfl) (by kernel_rfl) (fun _ _ _ h => h) (by rfl) (by assumption) ?_ ?_
                    rotate_left
                    · (intro w hSw; (try dsimp only at hSw); go_simp) <;> with_reducible rfl
                    try simp only [Act.put, List.setIfInBounds_toArray, List.set_cons_zero, List.set_cons_succ]
                    refine take1 (i := 16) (v := ?_) rfl (by kernel_rfl) (by kernel_rfl) (by kernel_rfl) (fun _ _ _ h => h) (by rfl) (by assumption) ?_ ?_
                    rotate_left
                    · (intro w hSw; (try dsimp only at hSw); go_simp) <;> with_reducible rfl
                    try simp only [Act.put, List.setIfInBounds_toArray, List.set_cons_zero, List.set_cons_succ]
                    refine take1 (i := 17) (v := ?_) rfl (by kernel_rfl) (by kernel_rfl) (by kernel_rfl) (fun _ _ _ h => h) (by rfl) (by assumption) ?_ ?_
                    rotate_left
                    · (intro w hSw; (try dsimp only at hSw); go_simp) <;> with_reducible rfl
                    try simp only [Act.put, List.setIfInBounds_toArray, List.set_cons_zero, List.set_cons_succ]
                    refine wpAnyH_ready (rs := [3, 7]) (by kernel_rfl) (by simp) ?_
                    refine AllReadyH.cons (nth_at rfl) (fun K hK => ?_) (AllReadyH.cons (nth_at rfl) (fun K hK => ?_) AllReadyH.nil)
                    go_simp
                    clear z0 z1 z2 z3 z4 z5 z6 p5 p6
                    obtain ⟨⟨z0, z1, z2, z3, z4, z5, z6⟩, p5, p6⟩ := HKp.out _ hs1
                    refine hK.out _ _ (by first | exact ⟨z0, z1, z2, z3, z4, z5, z6, p5, p6⟩ | (dsimp only; go_keep) | go_keep) (fun hHeld => ?_)
                    clear hK K
                    try simp only [Act.put, List.setIfInBounds_toArray, List.set_cons_zero, List.set_cons_succ]
                    refine wpAnyH_ready (rs := [7]) (by kernel_rfl) (by simp) ?_
                    refine AllReadyH.cons (nth_at rfl) (fun K hK => ?_) AllReadyH.nil
                    go_simp
                    refine hK.out _ _ (by first | exact ⟨z0, z1, z2, z3, z4, z5, z6, p5, p6⟩ | (dsimp only; go_keep) | go_keep) (fun hHeld => ?_)
                    clear hK K
                    try simp only [Act.put, List.setIfInBounds_toArray, List.set_cons_zero, List.set_cons_succ]
                    rotate_left
                    go_simp
                    refine hK.out _ _ (by first | exact ⟨z0, z1, z2, z3, z4, z5, z6, p5, p6⟩ | (dsimp only; go_keep) | go_keep) (fun hHeld => ?_)
                    clear hK K
                    try simp only [Act.put, List.setIfInBounds_toArray, List.set_cons_zero, List.set_cons_succ]
                    refine wpAnyH_ready (rs := [3]) (by kernel_rfl) (by simp) ?_
                    refine AllReadyH.cons (nth_at rfl) (fun K hK => ?_) AllReadyH.nil
                    go_simp
                    clear z0 z1 z2 z3 z4 z5 z6 p5 p6
                    obtain ⟨⟨z0, z1, z2, z3, z4, z5, z6⟩, p5, p6⟩ := HKp.out _ hs1
                    refine hK.out _ _ (by first | exact ⟨z0, z1, z2, z3, z4, z5, z6, p5, p6⟩ | (dsimp only; go_keep) | go_keep) (fun hHeld => ?_)
                    clear hK K
                    try simp only [Act.put, List.setIfInBounds_toArray, List.set_cons_zero, List.set_cons_succ]
                    all_goals
                      refine wpAnyH_ready (rs := [8]) (by kernel_rfl) (by simp) ?_
                      refine AllReadyH.cons (nth_at rfl) (fun K hK => ?_) AllReadyH.nil
                      rw [if_pos (by rfl)]
                      refine wp_append_run _ _ _ rfl _ _ rfl rfl _ _ HRun1.out ?_
                      clear z0 z1 z2 z3 z4 z5 z6 p5 p6
                      obtain ⟨⟨z0, z1, z2, z3, z4, z5, z6⟩, p5, p6⟩ := HKp.out _ hs5
                      refine hK.out _ _ (by first | exact ⟨z0, z1, z2, z3, z4, z5, z6, p5, p6⟩ | (dsimp only; go_keep) | go_keep) (fun hHeld => ?_)
                      clear hK K
                      try simp only [Act.put, List.setIfInBounds_toArray, List.set_cons_zero, List.set_cons_succ]
                      refine wpAnyH_ready (rs := [18]) (by kernel_rfl) (by simp) ?_
                      refine AllReadyH.cons (nth_at rfl) (fun K hK => ?_) AllReadyH.nil
                      rw [if_pos (by rfl)]
                      refine wp_append_run _ _ _ rfl _ _ rfl rfl _ _ HRun2.out ?_
                      clear z0 z1 z2 z3 z4 z5 z6 p5 p6
                      obtain ⟨⟨z0, z1, z2, z3, z4, z5, z6⟩, p5, p6⟩ := HKp.out _ hs6
                      refine hK.out _ _ (by first | exact ⟨z0, z1, z2, z3, z4, z5, z6, p5, p6⟩ | (dsimp only; go_keep) | go_keep) (fun hHeld => ?_)
                      clear hK K
                      try simp only [Act.put, List.setIfInBounds_toArray, List.set_cons_zero, List.set_cons_succ]
                      refine wpAnyH_ready (rs := [19]) (by kernel_rfl) (by simp) ?_
                      refine AllReadyH.cons (nth_at rfl) (fun K hK => ?_) AllReadyH.nil
                      go_simp
                      go_at_call 53
                      refine HLx.out.mono ?_
                      rintro e w7 ⟨A7, n7, c7, rfl, hm7, hb7⟩
                      go_wp2_with fail
                      have hs7 := hs6.step hb7
                      clear z0 z1 z2 z3 z4 z5 z6 p5 p6
                      obtain ⟨⟨z0, z1, z2, z3, z4, z5, z6⟩, p5, p6⟩ := HKp.out _ hs7
                      refine hK.out _ _ (by first | exact ⟨z0, z1, z2, z3, z4, z5, z6, p5, p6⟩ | (dsimp only; go_keep) | go_keep) (fun hHeld => ?_)
                      clear hK K
                      try simp only [Act.put, List.setIfInBounds_toArray, List.set_cons_zero, List.set_cons_succ]
                      have hb7w := Hb6.out.trans (hb7.mono Hb6.out.size)
                      obtain ⟨bo', oo', e9, hbo1, hbo2, hfz, ⟨u9, hu9⟩, hset⟩ := rows_set (HM.out.below hb7w) (i := m) (by rw [zipL_len]; have := Hol.out; omega) hm7 (by have := Hb6.out.size; omega) (fun k e => Nat.lt_of_lt_of_le (HM.out.base_le e).2 Hb6.out.size)
                      simp only [Option.some.injEq, Addr.mk.injEq, and_true] at e9
                      obtain ⟨rfl, rfl⟩ := e9
                      rw [← HSt.out] at hset
                      have hs8 := hs7.stepC (Chg.below (T := fun k => k = bo) (n := w.heap.size + 1) (Chg.setCell (T := fun k => k = bo) (p := ⟨bo, oo + m, none⟩) rfl (.slice A7 n7 c7)) hs7.lt (fun k e => by rw [e]; exact hbo1)) (Nat.lt_succ_self _) hs7.lt
                      have HS8 := Lib.hid hs8
                      have HM8 := Lib.hid hset
                      have hx8 := HKp.out _ hs8
                      clear hset hs8 hs1 hs5 hs6 HRun1 HRun2 HLx Hm6 HSt q0 q01
                      refine take1 (i := 20) (v := ?_) rfl (by kernel_rfl) (by kernel_rfl) (by kernel_rfl) (fun _ _ _ h => h) (by rfl) (by assumption) ?_ ?_
                      rotate_left
                      · (intro w hSw; (try dsimp only at hSw); go_simp) <;> with_reducible rfl
                      try simp only [Act.put, List.setIfInBounds_toArray, List.set_cons_zero, List.set_cons_succ]
                      refine wpAnyH_ready (rs := [21]) (by kernel_rfl) (by simp) ?_
                      refine AllReadyH.cons (nth_at rfl) (fun K hK => ?_) AllReadyH.nil
                      go_simp
                      refine hK.out _ _ (by first | exact ⟨hx8.1.1, hx8.1.2.1, hx8.1.2.2.1, hx8.1.2.2.2.1, hx8.1.2.2.2.2.1, hx8.1.2.2.2.2.2.1, hx8.1.2.2.2.2.2.2, hx8.2.1, hx8.2.2⟩ | go_keep) (fun hHeld => ?_)
                      clear hK K
                      try simp only [Act.put, List.setIfInBounds_toArray, List.set_cons_zero, List.set_cons_succ]
                      refine wpAnyH_done (by kernel_rfl) ?_ _
                      clear z0 z1 z2 z3 z4 z5 z6 p5 p6 hx8 hfz hu9 hHeld
                      go_wp2
                      go_roundg (i - (m + 1))
                      case measure => have := Hml.out; omega
                      case rel => exact ⟨m + 1, by go_num, Hml.out, Nat.le_refl _, HM8, HS8⟩
                  · have hmz : ¬ (m : Int) < (i : Int) := by omega
                    have hn := HM.out
                    rw [List.take_of_length_le (by have := Hbn.out; omega)] at hn
                    have HN2 := Lib.hid hn
                    have HK2 := Lib.hid (HK.out.zip HBk.out)
                    have hol2 : (zipL T.cls out bs').length = i := by rw [zipL_len]; exact Hol.out
                    have Hol2 := Lib.hid hol2
                    clear hn HM hol2
                    go_wp2
                    go_roundg (s.length - (j + 1))
                    case measure => have := Hlt.out; omega
                    case rel => exact ⟨j + 1, _, by go_num, Hlt.out, Nat.le_refl _, Hol2, HK2, HG3, HN2, HS⟩
          · have hltz : ¬ (j : Int) < (s.length : Int) := by omega
            have hG := HG.out
            rw [List.drop_eq_nil_of_le (by omega), rgather] at hG
            obtain rfl : some out = R := hG
            clear HG
            go_wp2
            go_ret2
            obtain rfl := Hol.out
            have hr := HM.out.read
            exact ⟨⟨_, _, rfl, hr.2.1, hr.2.2.mono (fun _ _ => trivial)⟩, HS.out.below⟩
end Go.Proofs.YthfomoigaoffgaaGreat.Rn
namespace Go.Proofs.YthfomoigaoffgaaGreat.Rn
open Go Go.RowKit Go.Shelf Go.Proofs.YthfomoigaoffgaaGreat.K Go.Proofs.YthfomoigaoffgaaGreat.G Go.Proofs.YthfomoigaoffgaaGreat.Ix Go.Proofs.YthfomoigaoffgaaGreat.O Go.Proofs.YthfomoigaoffgaaGreat.So Go.Proofs.YthfomoigaoffgaaGreat.Nd
set_option linter.unusedSimpArgs false
set_option linter.unusedVariables false

/-- Args, as the reference computes it: it takes the sort as it is -/
theorem args_ref (cs : List Cl) (ts : List Td) (ars : List Arx) (t : ByteArray) (s : List ByteArray) : argsB cs ts ars t s = if checkT cs ts ars ≠ 0 then ([], checkT cs ts ars) else if (args? ts t).isNone then ([], 9) else if sortsA cs [s] ≠ 0 then ([], sortsA cs [s]) else match needB cs ts ars t s with
    | none => ([], 14)
    | some l => if l.any (fun x => decide (20 < x.length)) then ([], 5) else (l, 0) := by
  unfold argsB
  by_cases h1 : checkT cs ts ars = 0
  · have g1 : ¬ (checkT cs ts ars ≠ 0) := fun e => e h1
    rw [if_neg g1, if_neg g1]
    cases h2 : (args? ts t).isNone with
    | true => rfl
    | false =>
      have g2 : ¬ (false = true) := fun e => Bool.noConfusion e
      rw [if_neg g2, if_neg g2, norm_ref]
      by_cases h3 : sortsA cs [s] = 0
      · obtain ⟨_, k1⟩ := Rf.sorts_ok h3
        have hk := (k1 s (by simp)).1
        have g3 : ¬ (sortsA cs [s] ≠ 0) := fun e => e h3
        have g4 : ¬ ((leastB cs s, (0 : Int)).2 ≠ 0) := fun e => e rfl
        rw [if_neg g3, if_neg g4, if_neg g3, (rt_of h1).need_least t hk]
        cases needB cs ts ars t (leastB cs s) <;> rfl
      · rw [if_pos (show sortsA cs [s] ≠ 0 from h3), if_pos (show (([], sortsA cs [s]) : List ByteArray × Int).2 ≠ 0 from h3), if_pos (show sortsA cs [s] ≠ 0 from h3)]
  · have g1 : checkT cs ts ars ≠ 0 := h1
    rw [if_pos g1, if_pos g1]
theorem tidx_none (ts : List Td) (t : ByteArray) : (tidx ts t = -1 ∧ (args? ts t).isNone = true) ∨ (0 ≤ tidx ts t ∧ (args? ts t).isNone = false) := by
  rcases tidx_cases ts t with ⟨e1, e2⟩ | ⟨k, _, e1, e2⟩
  · exact .inl ⟨e1, by rw [e2]; rfl⟩
  · exact .inr ⟨by omega, by rw [e2]; rfl⟩
/-- the rows of one sort, laid in a block -/
theorem one_sort {S : Nat → Prop} {W : World} {A : Option Addr} {c : Nat} {s : List ByteArray} (h : C str S W A s) (hc : s.length ≤ c) : C (slice str) (fun _ => True) (W.alloc (.cells #[.slice A s.length c] 27)) (some ⟨W.heap.size, 0, none⟩) [s] :=
  C.lit [[.slice A s.length c]] ⟨⟨A, c, rfl, hc, (h.below ((Below.refl _ _).alloc (Nat.le_refl _) _)).mono (fun _ _ => trivial)⟩, trivial⟩ (World.alloc_heap_new W _) trivial (by simp [maxLen])

set_option maxRecDepth 100000 in
set_option maxHeartbeats 4000000 in
theorem rargs_calls (S Ss : Nat → Prop) (r : Raw) (T : Thy) (t : ByteArray) (A : Option Addr) (c : Nat) (s : List ByteArray) (w : World) (hT : ThyR S w r T) (hs : Ch.ArsS T) (hC : C str Ss w A s) (hca : s.length ≤ c) (hl : s.length ≤ 25) :
    Calls Tryz.prog 9 #[thyV r T, .string t, .slice A s.length c] w (ArgEnd w (argsB T.cls T.tys T.ars t s)) := by
  have HCk := Lib.hid (fun (W : World) (hb : Below w.heap.size w W) => Rc.Check_calls S r T W (hT.below hb) hs.1)
  have HTy := Lib.hid (fun (W : World) (hb : Below w.heap.size w W) => Rc.Type_calls S r T W (hT.below hb) t)
  have HSo := Lib.hid (fun (W : World) (hb : Below w.heap.size w W) => Rf.sorts_calls S (fun _ => True) r T _ 1 [s] (W.alloc (.cells #[.slice A s.length c] 27)) (hT.below (hb.alloc hb.size _)) (one_sort (hC.below hb) hca))
  have HNd := Lib.hid (fun (h : checkT T.cls T.tys T.ars = 0) (W : World) (hb : Below w.heap.size w W) => rneeded_calls S Ss r T t A c s W (hT.below hb) (needOk_of h hs) (rt_of h) (hC.below hb) hl)
  have hag := Tryz.isAgg29
  have hsz := Tryz.sizeOf29
  have HB1 := Lib.hid (St.first w r T)
  obtain ⟨z0, z1, z2, z3, z4, z5, z6⟩ := thy_cells HB1.out.copy
  generalize hRR : argsB T.cls T.tys T.ars t s = R
  rw [args_ref] at hRR
  have HR := Lib.hid hRR
  have HTi := Lib.hid (tidx_none T.tys t)
  clear hT hC hca hs hRR
  unfold thyV thyC at HCk HTy HSo HNd
  unfold thyV
  unfold thyC at z0 z1 z2 z3 z4 z5 z6 ⊢
  go_enter Tryz.func9, Tryz.ntmps9
  go_wp2_with fail
  refine (HCk.out _ HB1.out.below).mono ?_
  rintro e w2 ⟨rfl, hb2⟩
  have HB2 := Lib.hid (HB1.out.step hb2)
  clear hb2 z0 z1 z2 z3 z4 z5 z6 HB1
  obtain ⟨z0, z1, z2, z3, z4, z5, z6⟩ := thy_cells HB2.out.copy
  by_cases h1 : checkT T.cls T.tys T.ars = 0
  · have hR := HR.out
    rw [if_neg (fun e => e h1)] at hR
    have HNd := Lib.hid (HNd.out h1)
    rw [h1]
    have HR := Lib.hid hR
    clear h1 hR
    go_wp2_with fail
    refine (HTy.out _ HB2.out.below).mono ?_
    rintro e w3 ⟨rfl, hb3⟩
    have HB3 := Lib.hid (HB2.out.step hb3)
    clear hb3 z0 z1 z2 z3 z4 z5 z6 HB2
    obtain ⟨z0, z1, z2, z3, z4, z5, z6⟩ := thy_cells HB3.out.copy
    rcases HTi.out with ⟨e1, e2⟩ | ⟨e1, e2⟩
    · have hR := HR.out
      rw [e2, if_pos rfl] at hR
      subst hR
      rw [e1]
      clear HR e1 e2
      go_wp2
      go_ret2
      exact ⟨none, 0, rfl, Nat.le_refl _, C.nil .., HB3.out.below⟩
    · have hR := HR.out
      rw [e2, if_neg (by decide)] at hR
      generalize tidx T.tys t = ti at e1 ⊢
      have e3 : ¬ ti < 0 := by omega
      have HR := Lib.hid hR
      have HSo3 := Lib.hid (HSo.out w3 HB3.out.below)
      have HB4 := Lib.hid (HB3.out.step ((Below.refl w3.heap.size w3).alloc (Nat.le_refl _) (.cells #[.slice A s.length c] 27)))
      clear hR e2 e1
      go_wp2_with fail
      refine HSo3.out.mono ?_
      rintro e w5 ⟨rfl, hb5⟩
      have HB5 := Lib.hid (HB4.out.step hb5)
      clear hb5 z0 z1 z2 z3 z4 z5 z6 HB3 HB4 HSo3 HSo
      obtain ⟨z0, z1, z2, z3, z4, z5, z6⟩ := thy_cells HB5.out.copy
      by_cases h2 : sortsA T.cls [s] = 0
      · have hR := HR.out
        rw [if_neg (fun e => e h2)] at hR
        rw [h2]
        have HD := Lib.hid (HNd.out w5 HB5.out.below)
        generalize needB T.cls T.tys T.ars t s = D at HD hR
        have HR := Lib.hid hR
        clear hR h2 HNd
        go_wp2_with fail
        refine HD.out.mono ?_
        rintro e w6 ⟨he6, hb6⟩
        have HB6 := Lib.hid (HB5.out.step hb6)
        clear hb6 z0 z1 z2 z3 z4 z5 z6 HB5 HD
        cases D with
        | none =>
          obtain rfl := he6
          obtain rfl : (([], 14) : List (List ByteArray) × Int) = R := HR.out
          clear HR
          go_wp2
          go_ret2
          exact ⟨none, 0, rfl, Nat.le_refl _, C.nil .., HB6.out.below⟩
        | some l =>
          obtain ⟨A6, c6, rfl, hc6, hC6⟩ := he6
          have HC6 := Lib.hid hC6
          have hlm : l.length ≤ 9223372036854775807 := hC6.len
          have hR : (if (l.any (fun x => decide (20 < x.length))) = true then (([], 5) : List (List ByteArray) × Int) else (l, 0)) = R := HR.out
          have HY : Hid ((l.drop 0).any (fun x => decide (20 < x.length)) = l.any (fun x => decide (20 < x.length))) := Lib.hid (by rw [List.drop_zero])
          generalize (l.any fun x => decide (20 < x.length)) = Y at HY hR
          have HR := Lib.hid hR
          clear hR hC6
          go_wp2_with fail
          go_loopg [12] l.length (fun gg v wr => ∃ k : Nat, v = .int .i64 k ∧ k ≤ l.length ∧ l.length - k ≤ gg ∧ Hid ((l.drop k).any (fun x => decide (20 < x.length)) = Y) ∧ w6 = wr)
          case atStart => exact ⟨0, rfl, by omega, by omega, HY, rfl⟩
          case round =>
            clear HY
            obtain ⟨k, rfl, hk, hg, HY, rfl⟩ := hrel
            by_cases hlt : k < l.length
            · have hltz : (k : Int) < (l.length : Int) := by omega
              have hk0 : (0 : Int) ≤ (k : Int) := by omega
              have Hlt := Lib.hid hlt
              obtain ⟨b, o, A7, c7, rfl, hb, q0, _, _⟩ := Ch.sl_at HC6.out k hlt
              have hy := HY.out
              rw [List.drop_eq_getElem_cons hlt, List.any_cons] at hy
              generalize (l[k]'hlt).length = n at q0 hy
              by_cases h20 : 20 < n
              · have g : (20 : Int) < (n : Int) := by omega
                have g2 : (n : Int) > 20 := g
                rw [decide_eq_true h20, Bool.true_or] at hy
                subst hy
                obtain rfl : (([], 5) : List (List ByteArray) × Int) = R := HR.out
                clear HR h20
                go_wp2
                go_ret2
                exact ⟨none, 0, rfl, Nat.le_refl _, C.nil .., HB6.out.below⟩
              · have g : ¬ (20 : Int) < (n : Int) := by omega
                rw [decide_eq_false h20, Bool.false_or] at hy
                have HY2 := Lib.hid hy
                clear hy h20 HY
                go_wp2
                go_roundg (l.length - (k + 1))
                case measure => omega
                case rel => exact ⟨k + 1, by go_num, Hlt.out, Nat.le_refl _, HY2, rfl⟩
            · have hltz : ¬ (k : Int) < (l.length : Int) := by omega
              have hy := HY.out
              rw [List.drop_eq_nil_of_le (by omega), List.any_nil] at hy
              subst hy
              obtain rfl : (l, 0) = R := HR.out
              clear HR HY
              go_wp2
              go_ret2
              exact ⟨A6, c6, rfl, hc6, HC6.out, HB6.out.below⟩
      · have hR := HR.out
        rw [if_pos h2] at hR
        generalize sortsA T.cls [s] = E at h2 hR
        subst hR
        have gE : (E != 0) = true := bne_iff_ne.2 h2
        clear h2 HR
        go_wp2
        go_ret2
        exact ⟨none, 0, rfl, Nat.le_refl _, C.nil .., HB5.out.below⟩
  · have hR := HR.out
    rw [if_pos h1] at hR
    generalize checkT T.cls T.tys T.ars = E at h1 hR
    subst hR
    have gE : (E != 0) = true := bne_iff_ne.2 h1
    clear h1 HR
    go_wp2
    go_ret2
    exact ⟨none, 0, rfl, Nat.le_refl _, C.nil .., HB2.out.below⟩
end Go.Proofs.YthfomoigaoffgaaGreat.Rn
