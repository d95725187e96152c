/- Walks of sort.Needed: the searches for a constructor, an arity. -/
import Derived.Test.YthfomoigaoffgaaGreatNd0
import Derived.Test.YthfomoigaoffgaaGreatOb
import Derived.Test.YthfomoigaoffgaaGreatIy
import Derived.Test.YthfomoigaoffgaaGreatAr4
import Derived.Test.YthfomoigaoffgaaGreatSo11
namespace Go.Proofs.YthfomoigaoffgaaGreat.Nd
open Go Go.RowKit Go.Proofs.YthfomoigaoffgaaGreat.K Go.Proofs.YthfomoigaoffgaaGreat.G Go.Proofs.YthfomoigaoffgaaGreat.Ix Go.Proofs.YthfomoigaoffgaaGreat.O Go.Proofs.YthfomoigaoffgaaGreat.So
set_option linter.unusedSimpArgs false
set_option linter.unusedVariables false

theorem n1_calls (S : Nat → Prop) (nm : ByteArray) (B : Nat) (W : World) (x : Td) (cs : List Value) (hB : W.cell? ⟨B, 0, none⟩ = some (.string nm)) (hK : kTd.K S W x cs) :
    Calls Tryz.prog 44 #[aggV cs, .pointer (some ⟨B, 0, none⟩)] W fun e W' => e = .returned (.bool (x.1 == nm)) ∧ Below W.heap.size W W' := by
  obtain rfl := kTd_open hK
  have hB' := (cell_old W (.cells #[.string x.1, .int .i64 x.2] 54) B 0 (lt_of_cell hB)).trans hB
  have HE := Lib.hid (str_eq x.1 nm)
  unfold aggV
  clear hK hB
  go_enter Tryz.func44, Tryz.ntmps44
  go_wp2
  go_ret
  exact ⟨by rw [HE.out]; rfl, (Below.refl _ _).alloc (Nat.le_refl _) _⟩
theorem n2_calls (S : Nat → Prop) (nm c : ByteArray) (B D : Nat) (W : World) (x : Arx) (cs : List Value) (hB : W.cell? ⟨B, 0, none⟩ = some (.string nm)) (hD : W.cell? ⟨D, 0, none⟩ = some (.string c)) (hK : kAr.K S W x cs) :
    Calls Tryz.prog 46 #[aggV cs, .pointer (some ⟨B, 0, none⟩), .pointer (some ⟨D, 0, none⟩)] W fun e W' => e = .returned (.bool (x.1 == nm && x.2.1 == c)) ∧ Below W.heap.size W W' := by
  obtain ⟨A, cp, rfl, _, _⟩ := kAr_open hK
  have hB' := (cell_old W (.cells #[.string x.1, .string x.2.1, .slice A x.2.2.length cp] 50) B 0 (lt_of_cell hB)).trans hB
  have hD' := (cell_old W (.cells #[.string x.1, .string x.2.1, .slice A x.2.2.length cp] 50) D 0 (lt_of_cell hD)).trans hD
  have he1 := str_eq x.1 nm
  have he2 := str_eq x.2.1 c
  unfold aggV
  clear hK hB hD
  cases h1 : (x.1 == nm) with
  | false =>
    rw [h1] at he1
    clear h1 he2
    go_enter Tryz.func46, Tryz.ntmps46
    go_wp2
    go_ret
    exact ⟨rfl, (Below.refl _ _).alloc (Nat.le_refl _) _⟩
  | true =>
    rw [h1] at he1
    generalize (x.2.1 == c) = R at he2
    clear h1
    go_enter Tryz.func46, Tryz.ntmps46
    go_wp2
    go_ret
    exact ⟨rfl, (Below.refl _ _).alloc (Nat.le_refl _) _⟩
theorem tidx_calls (S : Nat → Prop) (r : Raw) (T : Thy) (nm : ByteArray) (B : Nat) (W : World) (hT : ThyR S W r T) (hB : W.cell? ⟨B, 0, none⟩ = some (.string nm)) :
    Calls Tryz.prog 43 #[.slice r.a2 T.tys.length r.c2, .func (.func 44) #[] #[.pointer (some ⟨B, 0, none⟩)]] W fun e W' => e = .returned (.int .i64 (tidx T.tys nm)) ∧ Below W.heap.size W W' :=
  IndexFunc_apiTypeDecl kTd S Tryz.sizeOf54 (fun d => d.1 == nm) 44 #[.pointer (some ⟨B, 0, none⟩)] (enters_of Tryz.func44 (by kernel_rfl) rfl) r.a2 r.c2 T.tys W
    (fun W' x cs _ hb hK => n1_calls S nm B W' x cs ((hb.cell (p := ⟨B, 0, none⟩) (lt_of_cell hB)).trans hB) hK) hT.tys hT.tysc
theorem aidx_calls (S : Nat → Prop) (r : Raw) (T : Thy) (nm c : ByteArray) (B D : Nat) (W : World) (hT : ThyR S W r T) (hB : W.cell? ⟨B, 0, none⟩ = some (.string nm)) (hD : W.cell? ⟨D, 0, none⟩ = some (.string c)) :
    Calls Tryz.prog 45 #[.slice r.a3 T.ars.length r.c3, .func (.func 46) #[] #[.pointer (some ⟨B, 0, none⟩), .pointer (some ⟨D, 0, none⟩)]] W fun e W' => e = .returned (.int .i64 (aidx T.ars nm c)) ∧ Below W.heap.size W W' :=
  IndexFunc_apiArity kAr S Tryz.sizeOf50 (fun a => a.1 == nm && a.2.1 == c) 46 #[.pointer (some ⟨B, 0, none⟩), .pointer (some ⟨D, 0, none⟩)] (enters_of Tryz.func46 (by kernel_rfl) rfl) r.a3 r.c3 T.ars W
    (fun W' x cs _ hb hK => n2_calls S nm c B D W' x cs ((hb.cell (p := ⟨B, 0, none⟩) (lt_of_cell hB)).trans hB) ((hb.cell (p := ⟨D, 0, none⟩) (lt_of_cell hD)).trans hD) hK) hT.ars hT.arsc
theorem made_rows (n : Nat) : madeCells (Value.slice none 0 0).cells n = (List.replicate n (Value.slice none 0 0)).toArray := by
  unfold madeCells
  apply Array.ext'
  rw [Array.toList_map]
  refine (List.eq_replicate_iff.2 ⟨by simp, fun b hb => ?_⟩)
  obtain ⟨x, _, rfl⟩ := List.mem_map.1 hb
  have e : x % (Value.slice none 0 0).cells.size = 0 := Nat.mod_one x
  rw [e]
  rfl
theorem infoRow : (Tryz.prog.info? 27).map (fun i => (i.zero, i.size, i.bytes)) = some (some (.slice none 0 0), 1, 24) := by kernel_rfl
theorem make_rows (n : Nat) (h : n ≤ 1000000) (w : World) : (Instr.makeSlice 34 (.int .i64 (n : Int)) (.int .i64 (n : Int))).run Tryz.prog w = .ok (.slice (some ⟨w.heap.size, 0, none⟩) n n) (w.alloc (.cells (List.replicate n (Value.slice none 0 0)).toArray 27)) := by
  obtain ⟨i0, hi, hz0, hz1, hz2⟩ := info_parts infoRow
  have := run_make (P := Tryz.prog) w 34 27 i0 _ Tryz.underlying34 hi hz0 .i64 .i64 (n : Int) (n : Int) (by omega) (Int.le_refl _) (by rw [hz2]; omega) (by omega)
  rw [hz1, Int.toNat_natCast, Nat.mul_one, made_rows] at this
  exact this
end Go.Proofs.YthfomoigaoffgaaGreat.Nd
namespace Go.Proofs.YthfomoigaoffgaaGreat.Nd
open Go Go.RowKit Go.Shelf Go.Proofs.YthfomoigaoffgaaGreat.K Go.Proofs.YthfomoigaoffgaaGreat.G Go.Proofs.YthfomoigaoffgaaGreat.Ix Go.Proofs.YthfomoigaoffgaaGreat.O Go.Proofs.YthfomoigaoffgaaGreat.So
set_option linter.unusedSimpArgs false
set_option linter.unusedVariables false

/-- append to an own row: its block is the one it had, or new -/
theorem append_row {base : Nat} {S : Nat → Prop} {w : World} {v : Value} {xs ys : List ByteArray} {A : Option Addr} {c : Nat} (h : Mine str base NoB w v xs) (hC : C str S w A ys) (hl : xs.length + ys.length ≤ 1000000) (hbase : base ≤ w.heap.size) :
    ∃ v' w', (Builtin.append_ #[27, 27] 27 #[v, .slice A ys.length c]).run Tryz.prog w = .ok v' w' ∧ Mine str base NoB w' v' (xs ++ ys) ∧ w.grownBy w' v.ownBlock ∧ ∀ k, v'.ownBlock = some k → v.ownBlock = some k ∨ w.heap.size ≤ k := by
  obtain ⟨i0, hi0, hz0, hz1, hz2⟩ := info_parts infoStr
  by_cases hy : ys = []
  · subst hy
    obtain ⟨A1, cap, rfl, hle⟩ := h.form
    exact ⟨_, w, append_none w _ _ _ i0 Tryz.underlying27 hi0 A1 A _ cap c hle, by rw [List.append_nil]; exact h, World.grownBy.refl w _, fun k e => .inl e⟩
  · obtain ⟨b, o, rfl, _, _, _⟩ := hC.2 hy
    have hrow : ∀ j x, ys[j]? = some x → w.cell? ⟨b, o + j, none⟩ = some (.string x) := fun j x hj => by
      obtain ⟨hj1, e⟩ := List.getElem?_eq_some_iff.1 hj
      obtain ⟨b', o', e', _, _, hc⟩ := str_at hC j hj1
      simp only [Option.some.injEq, Addr.mk.injEq, and_true] at e'
      obtain ⟨rfl, rfl⟩ := e'
      rw [hc, e]
    obtain ⟨v', w', hrun, ho, hg, hb⟩ := h.append (P := Tryz.prog) (t := 27) (ty := 27) (bytes := 16) (c2 := c) Tryz.underlying27 hi0 hz0 hz1 hz2 rfl (by decide) rfl hy (scalar_cells hrow) (by unfold maxLen; omega) (by omega) hbase
    refine ⟨v', w', hrun, ho, hg, fun k e => ?_⟩
    rcases hb with h1 | h1
    · rw [h1] at e; exact .inl e
    · rw [h1] at e; cases e; exact .inr (Nat.le_refl _)
theorem Nest.read {base g : Nat} {t : TypeId} {w : World} {vs : List Value} {xs : List (List ByteArray)} (h : Nest base g t w vs xs) (hl : xs.length ≤ maxLen) : C (slice str) (fun _ => True) w (some ⟨g, 0, none⟩) xs := by
  refine ⟨hl, fun _ => ⟨g, 0, rfl, trivial, h.lt, fun j x hj => ?_⟩⟩
  have hjl := (List.getElem?_eq_some_iff.1 hj).1
  obtain ⟨v, hv, hc, _, hm⟩ := h.at_ j hjl
  rw [(List.getElem?_eq_some_iff.1 hj).2] at hm
  obtain ⟨A, c, e, hle⟩ := hm.form
  subst e
  refine ⟨[.slice A x.length c], ⟨A, c, rfl, hle, hm.read.2.2.mono (fun _ _ => trivial)⟩, fun i u hu => ?_⟩
  cases i with
  | zero =>
    simp only [List.getElem?_cons_zero, Option.some.injEq] at hu
    subst hu
    have e1 : (slice str).sz = 1 := rfl
    rw [e1, Nat.mul_one, Nat.zero_add, Nat.add_zero]
    exact hc
  | succ i => simp at hu

/-- what is asked of a theory that has been found right -/
structure NeedOk (T : Thy) : Prop where
  few : (allSups T.cls).length ≤ 100000000
  tys : ∀ d ∈ T.tys, 0 ≤ d.2 ∧ d.2 ≤ 10
  len : ∀ a ∈ T.ars, ∀ n, args? T.tys a.1 = some n → (a.2.2.length : Int) = n
  sorts : ∀ a ∈ T.ars, ∀ x ∈ a.2.2, x.length ≤ 20 ∧ ∀ y ∈ x, y.size ≤ maxLen
/-- what Needed returns -/
def NdEnd (w : World) (R : Option (List (List ByteArray))) (e : Ending) (w' : World) : Prop :=
  (match R with
    | none => e = .returned (.tuple #[.slice none 0 0, .bool false])
    | some l => ∃ g, e = .returned (.tuple #[.slice (some ⟨g, 0, none⟩) l.length l.length, .bool true]) ∧ w.heap.size ≤ g ∧ C (slice str) (fun _ => True) w' (some ⟨g, 0, none⟩) l) ∧ Below w.heap.size w w'
/-- the rows gathered are small -/
def Small (k : Nat) (xs : List (List ByteArray)) : Prop := ∀ x ∈ xs, x.length ≤ k * 20 ∧ ∀ y ∈ x, y.size ≤ maxLen
end Go.Proofs.YthfomoigaoffgaaGreat.Nd
namespace Go.Proofs.YthfomoigaoffgaaGreat.Nd
open Go Go.RowKit Go.Shelf Go.Proofs.YthfomoigaoffgaaGreat.K Go.Proofs.YthfomoigaoffgaaGreat.G Go.Proofs.YthfomoigaoffgaaGreat.Ix Go.Proofs.YthfomoigaoffgaaGreat.O Go.Proofs.YthfomoigaoffgaaGreat.So
set_option linter.unusedSimpArgs false
set_option linter.unusedVariables false

/-- what stays through the walk: the boxes of the theory and of the name -/
structure NdB (r : Raw) (T : Thy) (t : ByteArray) (w W : World) : Prop where
  thy : W.heap[w.heap.size]? = some (.cells (thyC r T) 29 (0, 0))
  nm : W.cell? ⟨w.heap.size + 1, 0, none⟩ = some (.string t)
  below : Below w.heap.size w W
theorem NdB.lt {r : Raw} {T : Thy} {t : ByteArray} {w W : World} (h : NdB r T t w W) : w.heap.size + 2 ≤ W.heap.size := lt_of_cell h.nm
theorem NdB.chg {r : Raw} {T : Thy} {t : ByteArray} {w W W' : World} {Q : Nat → Prop} (h : NdB r T t w W) (hc : Chg Q W W') (hq : ∀ k, Q k → w.heap.size + 2 ≤ k) : NdB r T t w W' := by
  have := h.lt
  exact ⟨hc.obj h.thy (fun e => by have := hq _ e; omega), hc.cell h.nm (fun e => by have := hq _ e; simp only at this; omega), h.below.trans (hc.below (by omega) (fun k hk => by have := hq _ hk; omega))⟩
theorem NdB.step {r : Raw} {T : Thy} {t : ByteArray} {w W W' : World} (h : NdB r T t w W) (hb : Below W.heap.size W W') : NdB r T t w W' := h.chg (Q := fun _ => False) (Chg.of_fresh hb) (fun _ e => e.elim)

theorem Small.zip {k : Nat} : ∀ {out bs : List (List ByteArray)}, Small k out → (∀ x ∈ bs, x.length ≤ 20 ∧ ∀ y ∈ x, y.size ≤ maxLen) → Small (k + 1) (zipA out bs)
  | [], [], _, _ => fun x hx => absurd hx List.not_mem_nil
  | [], _ :: _, _, _ => fun x hx => absurd hx List.not_mem_nil
  | o :: os, [], h, _ => fun x hx => ⟨by have := (h x hx).1; omega, (h x hx).2⟩
  | o :: os, b :: bs, h, hb => fun x hx => by
    rw [zipA] at hx
    rcases List.mem_cons.1 hx with rfl | hx
    · have h1 := h o (List.mem_cons_self ..)
      have h2 := hb b (List.mem_cons_self ..)
      refine ⟨by rw [List.length_append]; omega, fun y hy => ?_⟩
      rcases List.mem_append.1 hy with hy | hy
      · exact h1.2 y hy
      · exact h2.2 y hy
    · exact Small.zip (fun z hz => h z (List.mem_cons_of_mem _ hz)) (fun z hz => hb z (List.mem_cons_of_mem _ hz)) x hx
theorem zipA_at {out bs : List (List ByteArray)} {j : Nat} (hj : j < out.length) (hl : bs.length ≤ out.length) (h : j < (zipA out (bs.take j)).length) : (zipA out (bs.take j))[j]'h = out[j]'hj := by
  have := zipA_get out (bs.take j) j (by rw [List.length_take]; omega)
  rw [List.getElem?_eq_getElem h, List.getElem?_eq_getElem hj, List.getElem?_take, if_neg (Nat.lt_irrefl j)] at this
  simpa using this

theorem lst_step (f : List ByteArray → List ByteArray) (l : List (List ByteArray)) (j : Nat) (h : j < l.length) : ((l.take j).map f ++ l.drop j).set j (f (l[j]'h)) = (l.take (j + 1)).map f ++ l.drop (j + 1) := by
  have hl : ((l.take j).map f).length = j := by rw [List.length_map, List.length_take]; omega
  rw [List.set_append_right _ _ (by omega), hl, Nat.sub_self, List.drop_eq_getElem_cons h, List.set_cons_zero, List.take_succ_eq_append_getElem h, List.map_append, List.append_assoc]
  rfl
theorem lst_at (f : List ByteArray → List ByteArray) (l : List (List ByteArray)) (j : Nat) (h : j < l.length) (h2 : j < ((l.take j).map f ++ l.drop j).length) : ((l.take j).map f ++ l.drop j)[j]'h2 = l[j]'h := by
  have hl : ((l.take j).map f).length = j := by rw [List.length_map, List.length_take]; omega
  have e : ((l.take j).map f ++ l.drop j)[j]? = l[j]? := by rw [List.getElem?_append_right (by omega), hl, List.getElem?_drop, Nat.sub_self, Nat.add_zero]
  rw [List.getElem?_eq_getElem h2, List.getElem?_eq_getElem h] at e
  exact Option.some.inj e

set_option maxRecDepth 100000 in
set_option maxHeartbeats 8000000 in
theorem needed_calls (S Ss : Nat → Prop) (r : Raw) (T : Thy) (t : ByteArray) (A : Option Addr) (c : Nat) (s : List ByteArray) (w : World) (hT : ThyR S w r T) (hok : NeedOk T) (hC : C str Ss w A s) (hl : s.length ≤ 25) :
    Calls Tryz.prog 22 #[thyV r T, .string t, .slice A s.length c] w (NdEnd w (needB T.cls T.tys T.ars t s)) := by
  obtain ⟨nm, a1, c1, a2, c2, a3, c3, a4, n4, c4, a5, n5, c5, a6, n6, c6⟩ := r
  have HT := Lib.hid hT
  have HC := Lib.hid hC
  have HOk := Lib.hid hok
  have HTi := Lib.hid (fun (W : World) (hb : Below w.heap.size w W) B hB => tidx_calls S _ T t B W (hT.below hb) hB)
  have HAi := Lib.hid (fun (W : World) (hb : Below w.heap.size w W) B D x hB hD => aidx_calls S _ T t x B D W (hT.below hb) hB hD)
  have HCt := Lib.hid (show C kTd S w a2 T.tys from hT.tys)
  have HCa := Lib.hid (show C kAr S w a3 T.ars from hT.ars)
  have hl1 : T.tys.length ≤ 9223372036854775807 := hT.tys.len
  have hl2 : T.ars.length ≤ 9223372036854775807 := hT.ars.len
  have hmf : ∀ (fn : Fn) (first cap : Array Value) (w : World), (Instr.makeFunc fn first cap).run Tryz.prog w = .ok (.func fn first cap) w := fun _ _ _ _ => rfl
  have hag := Tryz.isAgg29
  have hsz := Tryz.sizeOf29
  obtain ⟨W1, hW1⟩ : ∃ W1, (w.alloc (.cells (thyC ⟨nm, a1, c1, a2, c2, a3, c3, a4, n4, c4, a5, n5, c5, a6, n6, c6⟩ T) 29)).alloc (.cells #[.string t] 9) = W1 := ⟨_, rfl⟩
  have hB1 : NdB ⟨nm, a1, c1, a2, c2, a3, c3, a4, n4, c4, a5, n5, c5, a6, n6, c6⟩ T t w W1 := by
    refine ⟨?_, ?_, ?_⟩
    · rw [← hW1]; exact (Below.heap_alloc _ _ _ (by simp)).trans (World.alloc_heap_new w _)
    · rw [← hW1]; exact cells_at _ _ _ _ 0 (by simp)
    · rw [← hW1]; exact ((Below.refl _ _).alloc (Nat.le_refl _) _).alloc (by simp) _
  have HB1 := Lib.hid hB1
  obtain ⟨z0, z1, z2, z3, z4, z5, z6⟩ := thy_cells HB1.out.thy
  dsimp only at z0 z1 z2 z3 z4 z5 z6
  have HT1 := Lib.hid (HTi.out W1 HB1.out.below (w.heap.size + 1) HB1.out.nm)
  have Hidx := Lib.hid (tidx_cases T.tys t)
  generalize hRR : needB T.cls T.tys T.ars t s = R
  have HR := Lib.hid hRR
  generalize tidx T.tys t = ti at HT1 Hidx
  clear hT hC hok hB1 hRR
  unfold thyV
  unfold thyC at hW1 ⊢
  dsimp only at HT1 HTi HAi hW1 ⊢
  go_enter Tryz.func22, Tryz.ntmps22
  go_wp2_with fail
  refine HT1.out.mono ?_
  rintro e w2 ⟨rfl, hb2⟩
  have HB2 := Lib.hid (HB1.out.step hb2)
  clear hb2 hW1 z0 z1 z2 z3 z4 z5 z6 HB1 HT1 HTi
  obtain ⟨z0, z1, z2, z3, z4, z5, z6⟩ := thy_cells HB2.out.thy
  dsimp only at z0 z1 z2 z3 z4 z5 z6
  rcases Hidx.out with ⟨rfl, e2⟩ | ⟨k, hk, rfl, e2⟩
  · obtain rfl : none = R := by have := HR.out; unfold needB at this; rw [e2] at this; exact this
    clear Hidx HR e2
    go_wp2
    go_ret2
    exact ⟨rfl, HB2.out.below⟩
  · have hd := HOk.out.tys _ (List.getElem_mem hk)
    have hkz : (k : Int) < (T.tys.length : Int) := by omega
    have hk0 : ¬ (k : Int) < 0 := by omega
    have hk0' : (0 : Int) ≤ (k : Int) := by omega
    obtain ⟨b2, o2, rfl, hbw2, _, p1⟩ := Ch.td_at HCt.out k hk
    have q1 := (HB2.out.below.cell (p := ⟨b2, o2 + k * 2 + 1, none⟩) hbw2).trans p1
    have Hlen := Lib.hid (fun a (ha : a ∈ T.ars) (e : a.1 = t) => HOk.out.len a ha _ (by rw [e]; exact e2))
    generalize (T.tys[k]'hk).2 = n0 at hd p1 q1 e2 Hlen
    obtain ⟨n, rfl⟩ : ∃ n : Nat, n0 = (n : Int) := ⟨n0.toNat, by omega⟩
    have hn10 : n ≤ 10 := by omega
    have hmk := make_rows n (by omega) w2
    obtain ⟨W3, hW3⟩ : ∃ W3, w2.alloc (.cells (List.replicate n (Value.slice none 0 0)).toArray 27) = W3 := ⟨_, rfl⟩
    rw [hW3] at hmk
    have hb3 : Below w2.heap.size w2 W3 := by rw [← hW3]; exact (Below.refl _ _).alloc (Nat.le_refl _) _
    have HB3 := Lib.hid (HB2.out.step hb3)
    have HN3 : Hid (Nest (w.heap.size + 2) w2.heap.size 27 W3 (List.replicate n (.slice none 0 0)) (List.replicate n [])) := Lib.hid (Nest.start (by rw [← hW3]; exact World.alloc_heap_new w2 _))
    have hgl := HB2.out.lt
    have hRg : (gather T.ars t s (List.replicate n [])).map (fun l => l.map (leastB T.cls)) = R := by have := HR.out; unfold needB at this; rw [e2] at this; simpa using this
    generalize hG : gather T.ars t s (List.replicate n []) = G
    have HG := Lib.hid (show gather T.ars t (s.drop 0) (List.replicate n []) = G from hG)
    rw [hG] at hRg
    have HRg := Lib.hid hRg
    have HS3 : Hid (Small 0 (List.replicate n [])) := Lib.hid (fun x hx => by rw [(List.mem_replicate.1 hx).2]; exact ⟨Nat.zero_le _, fun y hy => absurd hy List.not_mem_nil⟩)
    have hsl : s.length ≤ 9223372036854775807 := by omega
    generalize w2.heap.size = g at hmk HN3 hgl hb3
    clear hG hd p1 e2 hbw2 hW3 Hidx hb3 hRg HR
    go_wp2
    clear z0 z1 z2 z3 z4 z5 z6 q1 hmk HB2
    go_loopg [31] s.length (fun gg v wr => ∃ (k : Nat) (vs : List Value) (out : List (List ByteArray)), v = .int .i64 k ∧ k ≤ s.length ∧ s.length - k ≤ gg ∧ out.length = n ∧ Hid (gather T.ars t (s.drop k) out = G) ∧ Hid (Small k out) ∧
      Hid (Nest (w.heap.size + 2) g 27 wr vs out) ∧ Hid (NdB ⟨nm, a1, c1, some ⟨b2, o2, none⟩, c2, a3, c3, a4, n4, c4, a5, n5, c5, a6, n6, c6⟩ T t w wr))
    case atStart => exact ⟨0, _, _, rfl, by omega, by omega, by simp, HG, HS3, HN3, HB3⟩
    case round =>
      clear HG HS3 HN3 HB3
      obtain ⟨k, vs, out, rfl, hk, hg, hol, HG, HS, HN, HB⟩ := hrel
      by_cases hlt : k < s.length
      · have hltz : (k : Int) < (s.length : Int) := by omega
        have hk0 : (0 : Int) ≤ (k : Int) := by omega
        have Hlt := Lib.hid hlt
        obtain ⟨bs, os, rfl, _, _, q0⟩ := str_at (HC.out.below HB.out.below) k hlt
        have hG := HG.out
        rw [List.drop_eq_getElem_cons hlt, gather] at hG
        generalize s[k]'hlt = x at q0 hG
        obtain ⟨X, hX⟩ : ∃ X, wr.alloc (.cells #[.string x] 9) = X := ⟨_, rfl⟩
        have hx1 : Below wr.heap.size wr X := by rw [← hX]; exact (Below.refl _ _).alloc (Nat.le_refl _) _
        have HBX := Lib.hid (HB.out.step hx1)
        have HNX := Lib.hid (HN.out.below hx1)
        have HX := Lib.hid (show X.cell? ⟨wr.heap.size, 0, none⟩ = some (.string x) by rw [← hX]; exact cells_at _ _ _ _ 0 rfl)
        obtain ⟨z0, z1, z2, z3, z4, z5, z6⟩ := thy_cells HBX.out.thy
        dsimp only at z0 z1 z2 z3 z4 z5 z6
        have HA1 := Lib.hid (HAi.out X HBX.out.below (w.heap.size + 1) wr.heap.size x HBX.out.nm HX.out)
        have Hai := Lib.hid (aidx_cases T.ars t x)
        generalize aidx T.ars t x = ai at HA1 Hai
        have HG2 := Lib.hid hG
        clear hG HG hx1
        go_wp2_with fail
        refine HA1.out.mono ?_
        rintro e w4 ⟨rfl, hb4⟩
        have HB4 := Lib.hid (HBX.out.step hb4)
        have HN4 := Lib.hid (HNX.out.below hb4)
        clear hb4 z0 z1 z2 z3 z4 z5 z6 HA1 hX HBX HNX HX q0
        rcases Hai.out with ⟨rfl, e2⟩ | ⟨q, hq, rfl, e2⟩
        · obtain rfl : none = G := by have := HG2.out; rw [e2] at this; exact this
          obtain rfl : none = R := HRg.out
          clear HG2 HRg Hai e2
          go_wp2
          go_ret2
          exact ⟨rfl, HB4.out.below⟩
        · have hqz : (q : Int) < (T.ars.length : Int) := by omega
          have hq0 : (0 : Int) ≤ (q : Int) := by omega
          have hqn : ¬ (q : Int) < 0 := by omega
          have hmem := List.getElem_mem hq
          have hfm := Ch.find_mem e2
          have hln := Hlen.out _ hmem hfm.2.1
          have hso := HOk.out.sorts _ hmem
          have hG := HG2.out
          rw [e2] at hG
          obtain ⟨b5, o5, A5, cp5, rfl, hbw5, _, _, qw5, hlc5, hC5⟩ := Ch.ar_at HCa.out q hq
          dsimp only at hG
          generalize (T.ars[q]'hq).2.2 = bs at hln hso hG qw5 hlc5 hC5
          have hbn : bs.length = n := by omega
          have q5 := (HB4.out.below.cell (p := ⟨b5, o5 + q * 3 + 2, none⟩) hbw5).trans qw5
          have HC5 := Lib.hid hC5
          have HSo := Lib.hid hso
          have Hbn := Lib.hid hbn
          have HG3 := Lib.hid hG
          have HN0 : Hid (Nest (w.heap.size + 2) g 27 w4 vs (zipA out (bs.take 0))) := Lib.hid (by rw [List.take_zero, zipA_nil]; exact HN4.out)
          have hbl : bs.length ≤ 9223372036854775807 := by omega
          obtain ⟨z0, z1, z2, z3, z4, z5, z6⟩ := thy_cells HB4.out.thy
          dsimp only at z0 z1 z2 z3 z4 z5 z6
          clear hln hso hG hC5 qw5 hbw5 hbn HG2 Hai e2 hfm hmem HN4
          go_wp2
          clear z0 z1 z2 z3 z4 z5 z6 q5
          obtain ⟨W0, hW0⟩ : ∃ W0, W0 = wr := ⟨_, rfl⟩
          subst hW0
          go_loopg [48] bs.length (fun gg v wr => ∃ (j : Nat) (vs : List Value), v = .int .i64 j ∧ j ≤ bs.length ∧ bs.length - j ≤ gg ∧ Hid (Nest (w.heap.size + 2) g 27 wr vs (zipA out (bs.take j))) ∧
            Hid (NdB ⟨nm, a1, c1, some ⟨b2, o2, none⟩, c2, some ⟨b5, o5, none⟩, c3, a4, n4, c4, a5, n5, c5, a6, n6, c6⟩ T t w wr))
          case atStart => exact ⟨0, _, rfl, by omega, by omega, HN0, HB4⟩
          case round =>
            clear HN0 HB4
            obtain ⟨j, vs2, rfl, hj, hgj, HN, HB⟩ := hrel
            by_cases hjl : j < bs.length
            · have hjz : (j : Int) < (bs.length : Int) := by omega
              have hjn : (j : Int) < (n : Int) := by have := Hbn.out; omega
              have hj0 : (0 : Int) ≤ (j : Int) := by omega
              have Hjl := Lib.hid hjl
              have hjo : j < out.length := by have := Hbn.out; omega
              have hjz2 : j < (zipA out (bs.take j)).length := by rw [zipA_len]; exact hjo
              obtain ⟨b6, o6, A6, cp6, rfl, _, p0, hlc6, hC6⟩ := Ch.sl_at (HC5.out.below HB.out.below) j hjl
              have hso2 := HSo.out _ (List.getElem_mem hjl)
              obtain ⟨v, hv, pc, pf, hm⟩ := HN.out.at_ j hjz2
              have hst := zipA_step out bs j hjl (by have := Hbn.out; omega)
              rw [List.getElem?_eq_getElem hjz2] at hst
              rw [zipA_at hjo (by have := Hbn.out; omega) hjz2] at hm hst
              have hsm := HS.out _ (List.getElem_mem hjo)
              simp only [Option.getD_some] at hst
              generalize out[j]'hjo = oj at hm hst hsm
              generalize bs[j]'hjl = y at p0 hlc6 hC6 hso2 hst
              obtain ⟨v', w', hrun, hm', hgr, hown⟩ := append_row (c := cp6) hm hC6 (by omega) HB.out.lt
              obtain ⟨A', c', ev, _⟩ := hm'.form
              obtain ⟨n', hn'⟩ : ∃ n', n' = (oj ++ y).length := ⟨_, rfl⟩
              rw [← hn'] at ev
              subst ev
              have hcg : Chg (fun k => v.ownBlock = some k) wr w' := Chg.grown hgr (fun k e => .inl e)
              have hge : ∀ k, v.ownBlock = some k → w.heap.size + 2 ≤ k := fun k e => (hm.base_le e).1
              have hput := HN.out.put hv hcg hm' hown (by omega)
              have HRun := Lib.hid hrun
              have HN2 : Hid (Nest (w.heap.size + 2) g 27 (w'.setCell ⟨g, j, none⟩ (.slice A' n' c')) (vs2.set j (.slice A' n' c')) (zipA out (bs.take (j + 1)))) := Lib.hid (by rw [hst]; exact hput.1)
              have HB2' := Lib.hid (HB.out.chg hput.2 (fun k e => e.elim (fun e => by rw [e]; exact hgl) (hge k)))
              have pc2 : w'.cell? ⟨g, j, none⟩ = some v := hcg.cell pc (HN.out.ne j v hv)
              have pf2 : w'.frozen? ⟨g, j, none⟩ = false := (World.frozen?_of_block (hcg.block g HN.out.lt (HN.out.ne j v hv))).trans pf
              clear hrun hm hm' hgr hown hcg hge hput hst hsm hso2 hC6 hv hn'
              go_wp2_with (at_builtin; refine Lib.wpList_append_run _ rfl _ _ _ _ rfl _ _ rfl rfl _ _ HRun.out ?_)
              go_roundg (bs.length - (j + 1))
              case measure => omega
              case rel => exact ⟨j + 1, _, by go_num, Hjl.out, Nat.le_refl _, HN2, HB2'⟩
            · have hjz : ¬ (j : Int) < (bs.length : Int) := by omega
              have hn := HN.out
              rw [List.take_of_length_le (by omega)] at hn
              have HN2 := Lib.hid hn
              have HS2 := Lib.hid (HS.out.zip HSo.out)
              have hol2 : (zipA out bs).length = n := by rw [zipA_len]; exact hol
              have Hol := Lib.hid hol2
              clear hn HN hol2
              go_wp2
              go_roundg (s.length - (k + 1))
              case measure => omega
              case rel => exact ⟨k + 1, _, _, by go_num, Hlt.out, Nat.le_refl _, Hol.out, HG3, HS2, HN2, HB⟩
      · have hltz : ¬ (k : Int) < (s.length : Int) := by omega
        have hG := HG.out
        rw [List.drop_eq_nil_of_le (by omega), gather] at hG
        obtain rfl : some out = G := hG
        clear HG
        obtain rfl : some (out.map (leastB T.cls)) = R := HRg.out
        have HN0 : Hid (Nest (w.heap.size + 2) g 27 wr vs ((out.take 0).map (leastB T.cls) ++ out.drop 0)) := HN
        clear HRg HN
        go_wp2
        obtain ⟨W0, hW0⟩ : ∃ W0, W0 = wr := ⟨_, rfl⟩
        subst hW0
        go_loopg [66] n (fun gg v wr => ∃ (j : Nat) (vs : List Value), v = .int .i64 j ∧ j ≤ n ∧ n - j ≤ gg ∧ Hid (Nest (w.heap.size + 2) g 27 wr vs ((out.take j).map (leastB T.cls) ++ out.drop j)) ∧
          Hid (NdB ⟨nm, a1, c1, some ⟨b2, o2, none⟩, c2, a3, c3, a4, n4, c4, a5, n5, c5, a6, n6, c6⟩ T t w wr))
        case atStart => exact ⟨0, _, rfl, by omega, by omega, HN0, HB⟩
        case round =>
          clear HN0 HB
          obtain ⟨j, vs2, rfl, hj, hgj, HN, HB⟩ := hrel
          by_cases hjl : j < n
          · have hjz : (j : Int) < (n : Int) := by omega
            have hj0 : (0 : Int) ≤ (j : Int) := by omega
            have Hjl := Lib.hid hjl
            have hjo : j < out.length := by omega
            have hj2 : j < ((out.take j).map (leastB T.cls) ++ out.drop j).length := by simp; omega
            obtain ⟨v, hv, pc, pf, hm⟩ := HN.out.at_ j hj2
            have hst := lst_step (leastB T.cls) out j hjo
            rw [lst_at _ _ _ hjo] at hm
            have hsm := HS.out _ (List.getElem_mem hjo)
            generalize out[j]'hjo = x at hm hst hsm
            obtain ⟨A6, cp6, rfl, _⟩ := hm.form
            have hCx := hm.read.2.2
            have HLe := Lib.hid (fun (W : World) (hb : Below wr.heap.size wr W) => So.least_calls _ _ _ T A6 cp6 x W ((HT.out.bound.below HB.out.below).below hb) (fun k hk => by have := hk.2; have := HB.out.lt; have := hb.size; omega) (hCx.below hb) (by omega) hsm.2 HOk.out.few)
            obtain ⟨z0, z1, z2, z3, z4, z5, z6⟩ := thy_cells HB.out.thy
            dsimp only at z0 z1 z2 z3 z4 z5 z6
            unfold thyV thyC at HLe
            dsimp only at HLe
            generalize leastB T.cls x = L at HLe hst
            have HSt := Lib.hid hst
            have Hv := Lib.hid hv
            have Hpc := Lib.hid (fun (W : World) (hb : Below wr.heap.size wr W) => And.intro ((hb.cell (p := ⟨g, j, none⟩) HN.out.lt).trans pc) ((World.frozen?_of_block (hb.block g HN.out.lt)).trans pf))
            clear hm hst hsm hCx hv pf
            go_wp2
            go_region_with (go_at_call 36; refine (HLe.out _ (Rf.below_drew1 (Below.refl _ _))).mono ?_; rintro e w6 ⟨v6, rfl, hm6, hb6⟩; obtain ⟨A7, c7, rfl, _⟩ := hm6.form; have hb6 := Rf.undrew hb6; have Hm6 := Lib.hid hm6; have Hb6 := Lib.hid hb6; obtain ⟨p6, f6⟩ := Hpc.out _ hb6; clear hm6 hb6)
            all_goals
              have hput := HN.out.put Hv.out (Chg.of_fresh Hb6.out) (Hm6.out.lower (by show _ ≤ wr.heap.size; exact HB.out.lt)) (fun k e => .inr (Hm6.out.base_le e).1) (by omega)
              have HN2 := Lib.hid hput.1
              have HB2' := Lib.hid ((HB.out.step Hb6.out).chg (Chg.setCell (T := fun k => k = g) (p := ⟨g, j, none⟩) rfl (.slice A7 L.length c7)) (fun k e => by rw [e]; exact hgl))
              rw [HSt.out] at HN2
              clear hput
              go_wp2
              go_roundg (n - (j + 1))
              case measure => omega
              case rel => exact ⟨j + 1, _, by go_num, Hjl.out, Nat.le_refl _, HN2, HB2'⟩
          · have hjz : ¬ (j : Int) < (n : Int) := by omega
            have hn := HN.out
            rw [List.take_of_length_le (by omega), List.drop_eq_nil_of_le (by omega), List.append_nil] at hn
            have HN2 := Lib.hid hn
            clear hn HN
            go_wp2
            go_ret2
            have hll : (out.map (leastB T.cls)).length = n := by rw [List.length_map]; exact hol
            exact ⟨⟨g, (by rw [hll]; rfl), by omega, HN2.out.read (by rw [hll]; simp [maxLen]; omega)⟩, HB.out.below⟩
end Go.Proofs.YthfomoigaoffgaaGreat.Nd
