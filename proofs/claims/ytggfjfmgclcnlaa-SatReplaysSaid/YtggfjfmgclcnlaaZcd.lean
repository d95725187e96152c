/- Rows of one's own: append, Clone, SortFunc by the atoms; ordered. -/
import Derived.Test.YtggfjfmgclcnlaaZb
import Derived.Test.YtggfjfmgclcnlaaShelf
import Derived.WalkSpells
import Derived.Deep.LoopGhost
import Derived.Shelf.SlSortCmp.Whole1
namespace Go.Proofs.Ytggfjfmgclcnlaa.Zb
open Go Go.RowKit Go.Shelf Go.Proofs.Ytggfjfmgclcnlaa.K Go.Proofs.Ytggfjfmgclcnlaa.G Go.Proofs.Ytggfjfmgclcnlaa.Z
set_option linter.unusedSimpArgs false
set_option linter.unusedVariables false

theorem infoI : (Try.prog.info? 3).map (fun i => (i.zero, i.size, i.bytes)) = some (some (.int .i64 0), 1, 8) := by kernel_rfl
theorem infoC : (Try.prog.info? 56).map (fun i => (i.zero, i.size, i.bytes)) = some (some (.slice none 0 0), 1, 24) := by kernel_rfl
theorem infoS : (Try.prog.info? 55).map (fun i => (i.zero, i.size, i.bytes)) = some (some (.agg #[.int .i64 0, .int .i64 0, .int .i64 0]), 3, 24) := by kernel_rfl
theorem append_none {P : Program} (w : World) (t ty e : TypeId) (i : TypeInfo) (ht : P.underlying t = some (.slice e)) (hi : P.info? e = some i) (A B : Option Addr) (n cap c : Nat) (h : n ≤ cap) :
    (Builtin.append_ #[t, t] ty #[.slice A n cap, .slice B 0 c]).run P w = .ok (.slice A n cap) w := by
  cases A <;> cases B <;> simp [Builtin.append_, run_underlying ht, sizeOf, typeInfo, hi, Builtin.lenOf, h, storeCells, Result.andThen, go_sem]
/-- append to a row of one's own: its block is the one it had, or new -/
theorem append_own {α : Type} {d : Rd α} {base t e bytes : Nat} {zc : Value} {S S' : Nat → Prop} {w : World} {v : Value} {xs ys : List α} {A : Option Addr} {c : Nat} (ht : Try.prog.underlying t = some (.slice e)) (hinfo : (Try.prog.info? e).map (fun i => (i.zero, i.size, i.bytes)) = some (some zc, d.sz, bytes)) (hzs : zc.cells.size = d.sz) (hsz : 0 < d.sz) (hby : bytes ≤ 1000)
    (h : Mine d base S w v xs) (hC : C d S' w A ys) (hS : ∀ k, S' k → S k ∧ v.ownBlock ≠ some k) (hl : xs.length + ys.length ≤ 100000000) (hbase : base ≤ w.heap.size) :
    ∃ A' n' c' w', (Builtin.append_ #[t, t] t #[v, .slice A ys.length c]).run Try.prog w = .ok (.slice A' n' c') w' ∧ n' = (xs ++ ys).length ∧ Mine d base S w' (.slice A' n' c') (xs ++ ys) ∧ w.grownBy w' v.ownBlock ∧ ∀ k, (Value.slice A' n' c').ownBlock = some k → v.ownBlock = some k ∨ w.heap.size ≤ k := by
  obtain ⟨i0, hi0, hz0, hz1, hz2⟩ := info_parts hinfo
  by_cases hy : ys = []
  · subst hy
    obtain ⟨A1, cap, rfl, hle⟩ := h.form
    exact ⟨A1, _, cap, w, append_none w _ _ _ i0 ht hi0 A1 A _ cap c hle, by rw [List.append_nil], by rw [List.append_nil]; exact h, World.grownBy.refl w _, fun k e => .inl e⟩
  · obtain ⟨b, o, rfl, hSb, _, hcc⟩ := hC.2 hy
    have hcs : Cells d (fun k => S k ∧ v.ownBlock ≠ some k) w b o ys := fun j x hj => by
      obtain ⟨cs, hk, hc⟩ := hcc j x hj
      exact ⟨cs, d.mono hS hk, hc⟩
    have hb9 : (xs.length + ys.length) * bytes ≤ 100000000 * 1000 := Nat.mul_le_mul hl hby
    obtain ⟨v', w', hrun, ho, hg, hb⟩ := h.append (P := Try.prog) (t := t) (ty := t) (bytes := bytes) (c2 := c) ht hi0 hz0 hz1 hz2 hzs hsz rfl hy hcs (by unfold maxLen; omega) (by omega) hbase
    obtain ⟨A', c', ev, _⟩ := ho.form
    subst ev
    refine ⟨A', _, c', w', hrun, rfl, ho, hg, fun k e => ?_⟩
    rcases hb with h1 | h1
    · rw [h1] at e; exact .inl e
    · rw [h1] at e; cases e; exact .inr (Nat.le_refl _)
/-- an empty row, made -/
theorem mine_empty {α : Type} (d : Rd α) {base g : Nat} {S : Nat → Prop} {w : World} (hb : base ≤ g) (hg : g < w.heap.size) : Mine d base S w (.slice (some ⟨g, 0, none⟩) 0 0) [] :=
  ⟨_, 0, rfl, Nat.le_refl _, Nat.zero_le _, .inr ⟨g, 0, rfl, hb, hg, fun j hj => by rw [Nat.zero_mul] at hj; exact absurd hj (Nat.not_lt_zero _), Cells.nil d _ w g 0⟩⟩

/-! ### Clone -/
set_option maxRecDepth 100000 in
set_option maxHeartbeats 1000000 in
theorem clone_int {S : Nat → Prop} {A : Option Addr} {c : Nat} {l : List Int} {w : World} (hC : C kI S w A l) (hl : l.length ≤ 1000000) :
    Calls Try.prog 54 #[.slice A l.length c] w fun e w' => ∃ A' c', e = .returned (.slice A' l.length c') ∧ Mine kI w.heap.size S w' (.slice A' l.length c') l ∧ Below w.heap.size w w' := by
  have kn := fun (w : World) (A : Option Addr) (n c : Nat) => Lib.run_eql_slice_nil (P := Try.prog) w 56 3 A n c 0 0 Try.underlying56
  cases A with
  | none =>
    have hl0 : l = [] := by
      by_cases e : l = []
      · exact e
      · obtain ⟨b, o, e1, _⟩ := hC.2 e; cases e1
    subst hl0
    clear hC
    go_enter Try.func54, Try.ntmps54
    go_wp2
    go_ret
    exact ⟨_, _, rfl, Mine.nil .., Below.refl _ _⟩
  | some ad =>
    have hb : Below w.heap.size w (w.alloc (.cells #[] 3)) := (Below.refl _ _).alloc (Nat.le_refl _) _
    obtain ⟨A', n', c', w', hrun, hn', hm, hg, ho⟩ := append_own (c := c) (S := S) Try.underlying56 infoI rfl (by decide) (by decide) (mine_empty kI (S := S) (base := w.heap.size) (g := w.heap.size) (w := w.alloc (.cells #[] 3)) (Nat.le_refl _) (by simp)) (hC.bound.below hb) (fun k hk => ⟨hk.1, fun e => by simp [Value.ownBlock] at e; have := hk.2; omega⟩) (by simp; omega) (by simp)
    rw [List.nil_append] at hn' hm
    have hbb : Below w.heap.size w w' := hb.trans ((Chg.grown hg (fun k e => .inl e) (T := fun k => (Value.slice (some ⟨w.heap.size, 0, none⟩) 0 0).ownBlock = some k)).below (by simp) (fun k e => by simp [Value.ownBlock] at e; omega))
    subst hn'
    have HRun := Lib.hid hrun
    clear hrun hC hb hg ho
    have hl2 : l.length ≤ 9223372036854775807 := by omega
    go_enter Try.func54, Try.ntmps54
    go_wp2_with (at_builtin; refine G.wpList_append_run rfl _ _ _ rfl _ _ rfl rfl _ _ HRun.out ?_)
    go_ret
    exact ⟨_, _, rfl, hm, hbb⟩

set_option maxRecDepth 100000 in
set_option maxHeartbeats 1000000 in
theorem clone_cls {S : Nat → Prop} {A : Option Addr} {c : Nat} {l : List (List Int)} {w : World} (hC : C kL S w A l) (hl : l.length ≤ 1000000) :
    Calls Try.prog 34 #[.slice A l.length c] w fun e w' => ∃ A' c', e = .returned (.slice A' l.length c') ∧ Mine kL w.heap.size S w' (.slice A' l.length c') l ∧ Below w.heap.size w w' := by
  have kn := fun (w : World) (A : Option Addr) (n c : Nat) => Lib.run_eql_slice_nil (P := Try.prog) w 34 56 A n c 0 0 Try.underlying34
  cases A with
  | none =>
    have hl0 : l = [] := by
      by_cases e : l = []
      · exact e
      · obtain ⟨b, o, e1, _⟩ := hC.2 e; cases e1
    subst hl0
    clear hC
    go_enter Try.func34, Try.ntmps34
    go_wp2
    go_ret
    exact ⟨_, _, rfl, Mine.nil .., Below.refl _ _⟩
  | some ad =>
    have hb : Below w.heap.size w (w.alloc (.cells #[] 56)) := (Below.refl _ _).alloc (Nat.le_refl _) _
    obtain ⟨A', n', c', w', hrun, hn', hm, hg, ho⟩ := append_own (c := c) (S := S) Try.underlying34 infoC rfl (by decide) (by decide) (mine_empty kL (S := S) (base := w.heap.size) (g := w.heap.size) (w := w.alloc (.cells #[] 56)) (Nat.le_refl _) (by simp)) (hC.bound.below hb) (fun k hk => ⟨hk.1, fun e => by simp [Value.ownBlock] at e; have := hk.2; omega⟩) (by simp; omega) (by simp)
    rw [List.nil_append] at hn' hm
    have hbb : Below w.heap.size w w' := hb.trans ((Chg.grown hg (fun k e => .inl e) (T := fun k => (Value.slice (some ⟨w.heap.size, 0, none⟩) 0 0).ownBlock = some k)).below (by simp) (fun k e => by simp [Value.ownBlock] at e; omega))
    subst hn'
    have HRun := Lib.hid hrun
    clear hrun hC hb hg ho
    have hl2 : l.length ≤ 9223372036854775807 := by omega
    go_enter Try.func34, Try.ntmps34
    go_wp2_with (at_builtin; refine G.wpList_append_run rfl _ _ _ rfl _ _ rfl rfl _ _ HRun.out ?_)
    go_ret
    exact ⟨_, _, rfl, hm, hbb⟩
end Go.Proofs.Ytggfjfmgclcnlaa.Zb
namespace Go.Proofs.Ytggfjfmgclcnlaa.Zb
open Go Go.RowKit Go.Shelf Go.Sort Go.Proofs.Ytggfjfmgclcnlaa.K Go.Proofs.Ytggfjfmgclcnlaa.Z
set_option linter.unusedSimpArgs false
set_option linter.unusedVariables false

/-- literals that are no large numbers -/
abbrev SL := { x : Int // -1000 ≤ x ∧ x ≤ 1000 }
instance : Inhabited SL := ⟨⟨0, by decide, by decide⟩⟩
def encL (x : SL) : Value := .int .i64 x.1
def cmpL (x y : SL) : Int := atm x.1 - atm y.1
theorem atm_le (x : SL) : 0 ≤ atm x.1 ∧ atm x.1 ≤ 1000 := by
  have h := x.2
  unfold atm
  split <;> omega
theorem ltL (x y : SL) : ltOf cmpL x y = decide (atm x.1 < atm y.1) := by
  unfold ltOf cmpL
  rw [decide_eq_decide]
  omega
theorem swoL : SWO (ltOf cmpL) where
  irrefl x := by rw [ltL]; simp
  trans x y z h1 h2 := by rw [ltL, decide_eq_true_eq] at *; omega
  ntrans x y z h1 h2 := by rw [ltL, decide_eq_false_iff_not] at *; omega
theorem cmp_calls (x y : SL) (w : World) : Calls Try.prog 63 #[encL x, encL y] w fun e w' => e = .returned (.int .i64 (cmpL x y)) ∧ w = w' := by
  have ax := atm_le x
  have ay := atm_le y
  obtain ⟨x, hx1, hx2⟩ := x
  obtain ⟨y, hy1, hy2⟩ := y
  have HX := Lib.hid (fun w => atom_calls x w (by omega) (by omega))
  have HY := Lib.hid (fun w => atom_calls y w (by omega) (by omega))
  unfold encL cmpL
  dsimp only at ax ay ⊢
  generalize atm x = p at *
  generalize atm y = q at *
  obtain ⟨p1, p2⟩ := ax
  obtain ⟨q1, q2⟩ := ay
  go_enter Try.func63, Try.ntmps63
  go_wp2_with fail
  refine (HX.out _).mono ?_
  rintro e w1 ⟨rfl, rfl⟩
  go_wp2_with fail
  refine (HY.out _).mono ?_
  rintro e w1 ⟨rfl, rfl⟩
  go_wp2
  go_ret
  exact ⟨rfl, rfl⟩
theorem chg_sort {α : Type} [Inhabited α] (enc : α → Value) (w : World) (g o n : Nat) (d : Array α) (os : Array Obj) : Chg (fun k => k = g) w (grow (putRow enc (Sort.ahead w n) g o d) os) := by
  have hs : (putRow enc (Sort.ahead w n) g o d).heap.size = w.heap.size := by rw [size_putRow]; rfl
  refine ⟨rfl, rfl, rfl, by rw [size_grow, hs]; omega, fun k hk hn => ?_⟩
  rw [heap_grow_old _ _ (by rw [hs]; exact hk)]
  have hn' : k ≠ g := hn
  show (w.heap.modify g _)[k]? = w.heap[k]?
  rw [Array.getElem?_modify, if_neg (Ne.symm hn')]
set_option maxHeartbeats 1000000 in
theorem sortFunc_calls {g o cap n : Nat} (d : Array SL) (w : World) (hd : d.size = n) (hH : Holds encL w g o d) (hg : g < w.heap.size) (hn : n ≤ 1000000) :
    Calls Try.prog 62 #[.slice (some ⟨g, o, none⟩) n cap, .func (.func 63) #[] #[]] w fun e w' => e = .returned (.tuple #[]) ∧ ∃ k os, w' = sortWorld encL w g o k (pdq (ltOf cmpL) d 0 d.size (Lib.bitLen d.size) true true) os := by
  subst hd
  have hlim : Lib.bitLen d.size < 4611686018427387904 := Nat.lt_of_le_of_lt (Lib.bitLen_le d.size 62 (by omega) (by omega)) (by omega)
  have hp := Try.pdqsortCmpFunc_all encL cmpL 63 #[] swoL g o cap d w (enters_of Try.func63 (by kernel_rfl) rfl) (fun m os dk _ x y => (cmp_calls x y _).mono (fun e w' ⟨he, hw⟩ => ⟨he, 0, #[], by rw [← hw, grow_empty]; rfl⟩)) ⟨fun _ => rfl, hH, hg⟩ (d.size + 1) 0 d.size (Lib.bitLen d.size) d w (by omega) rfl (SW.start hH) (Nat.zero_le _) (Nat.le_refl _) (by omega) hlim (Or.inl rfl)
  have hl : Calls Try.prog 67 #[.int .u64 (d.size : Int)] w fun e w' => e = .returned (.int .i64 (Lib.bitLen d.size : Nat)) ∧ w' = w := by
    have h := Try.bits_Len (d.size : Int) w (by omega) (by omega)
    rwa [Int.toNat_natCast] at h
  have wr : IntKind.u64.wrap (d.size : Int) = d.size := by simp [IntKind.wrap, IntKind.bits, IntKind.signed]; omega
  have HP := Lib.hid hp
  have HL := Lib.hid hl
  generalize pdq (ltOf cmpL) d 0 d.size (Lib.bitLen d.size) true true = d' at HP
  generalize hz : d.size = z at *
  generalize Lib.bitLen z = q at *
  have hz2 : z ≤ 9223372036854775807 := by omega
  clear hH hp hl hz
  go_enter Try.func62, Try.ntmps62
  go_wp2_with fail
  refine HL.out.mono ?_
  rintro e w' ⟨rfl, rfl⟩
  go_wp2_with fail
  refine HP.out.mono ?_
  rintro e w' ⟨rfl, k, os, rfl⟩
  go_wp2
  go_end0
  exact ⟨rfl, k, os, rfl⟩
/-- ordered, of a row of one's own: its literals, ascending by their atoms -/
theorem ordered_calls {base g o cap : Nat} {l : List Int} {w : World} (h : G.Mine kI base NoB w (.slice (some ⟨g, o, none⟩) l.length cap) l) (hl : l.length ≤ 1000000) (hb : ∀ x ∈ l, -1000 ≤ x ∧ x ≤ 1000) :
    Calls Try.prog 55 #[.slice (some ⟨g, o, none⟩) l.length cap] w fun e w' => e = .returned (.slice (some ⟨g, o, none⟩) l.length cap) ∧ ∃ l' : List Int, l'.Perm l ∧ l'.Pairwise (fun x y => ¬ atm y < atm x) ∧ G.Mine kI base NoB w' (.slice (some ⟨g, o, none⟩) l.length cap) l' ∧ Chg (fun k => k = g) w w' := by
  obtain ⟨A', cap', e, hle, hcm, hA⟩ := h
  injection e with e1 _ e3
  subst e1; subst e3
  rcases hA with ⟨e, _⟩ | ⟨g', o', e, hg, hlt, hsp, hcells⟩
  · cases e
  injection e with e
  injection e with e1 e2 _
  subst e1; subst e2
  have hsz1 : kI.sz = 1 := rfl
  rw [hsz1, Nat.mul_one] at hsp
  have hcell : ∀ j x, l[j]? = some x → w.cell? ⟨g, o + j, none⟩ = some (.int .i64 x) := fun j x hj => by
    obtain ⟨cs, hk, hc⟩ := hcells j x hj
    have hk' : cs = [.int .i64 x] := hk
    subst hk'
    have := hc 0 _ rfl
    rwa [hsz1, Nat.mul_one, Nat.add_zero] at this
  let d : Array SL := (l.attach.map (fun x => (⟨x.1, hb x.1 x.2⟩ : SL))).toArray
  have hds : d.size = l.length := by simp [d]
  have hdl : d.toList.map (·.1) = l := by
    show (l.attach.map (fun x => (⟨x.1, hb x.1 x.2⟩ : SL))).map (·.1) = l
    rw [List.map_map]
    exact List.attach_map_subtype_val l
  have hdg : ∀ j (hj : j < d.size), (d[j]'hj).1 = l[j]'(by rw [← hds]; exact hj) := fun j hj => by simp [d]
  have hH : Holds encL w g o d := fun j hj => by
    refine ⟨?_, (hsp j (by omega)).2⟩
    rw [hcell j _ (List.getElem?_eq_getElem (by rw [← hds]; exact hj)), getElem!_pos d j hj]
    unfold encL
    rw [hdg]
  have hcon := sortFunc_calls (cap := cap) d w hds hH hlt hl
  obtain ⟨p1, _, p3⟩ := (pdq_sorts (ltOf cmpL) swoL d 0 d.size (Lib.bitLen d.size) true true (Nat.zero_le _) (Nat.le_refl _) (Or.inl rfl)).1
  have hso := (pdq_sorts (ltOf cmpL) swoL d 0 d.size (Lib.bitLen d.size) true true (Nat.zero_le _) (Nat.le_refl _) (Or.inl rfl)).2
  generalize pdq (ltOf cmpL) d 0 d.size (Lib.bitLen d.size) true true = d' at hcon p1 p3 hso
  have hperm : (d'.toList.map (·.1)).Perm l := by
    have e1 : d'.extract 0 d.size = d' := by rw [← p1]; exact Array.extract_size
    rw [e1, Array.extract_size] at p3
    have := p3.map (·.1)
    rwa [hdl] at this
  have hlen' : (d'.toList.map (·.1)).length = l.length := hperm.length_eq
  have hsrt : (d'.toList.map (·.1)).Pairwise (fun x y => ¬ atm y < atm x) := by
    rw [List.pairwise_map, List.pairwise_iff_getElem]
    intro i j hi hj hij
    have hi' : i < d'.size := by simpa using hi
    have hj' : j < d'.size := by simpa using hj
    have := hso i j (Nat.zero_le _) hij (by omega)
    rw [getElem!_pos d' j hj', getElem!_pos d' i hi', ltL, decide_eq_false_iff_not] at this
    simpa using this
  have HCon := Lib.hid hcon
  have hlm : l.length ≤ 9223372036854775807 := by omega
  have key : ∀ (k : Nat) (os : Array Obj), G.Mine kI base NoB (sortWorld encL w g o k d' os) (.slice (some ⟨g, o, none⟩) l.length cap) (d'.toList.map (·.1)) := fun k os => by
    have hs : (putRow encL (Sort.ahead w k) g o d').heap.size = w.heap.size := by rw [size_putRow]; rfl
    have hh : Holds encL (sortWorld encL w g o k d' os) g o d' := by
      have h1 : Holds encL (Sort.ahead w k) g o d := hH
      exact holds_grow _ _ _ _ _ _ (by rw [size_putRow]; exact hlt) (holds_putRow _ _ _ _ _ _ h1 p1)
    refine ⟨_, cap, by rw [hlen'], by omega, hcm, .inr ⟨g, o, rfl, hg, ?_, fun j hj => ?_, ?_⟩⟩
    · unfold sortWorld
      rw [size_grow, hs]
      omega
    · rw [hsz1, Nat.mul_one] at hj
      unfold sortWorld
      rw [cell?_grow _ _ _ (by rw [hs]; exact hlt), frozen?_grow _ _ _ (by rw [hs]; exact hlt), frozen?_putRow]
      refine ⟨?_, (hsp j hj).2⟩
      by_cases hjd : j < d'.size
      · have h0' : Holds encL (Sort.ahead w k) g o d := hH
        rw [cell?_putRow encL _ _ _ d d' h0' p1 j hjd]; rfl
      · rw [cell?_putRow_other _ _ _ _ _ _ (.inr (.inr (by show o + d'.size ≤ o + j; omega)))]
        exact (hsp j hj).1
    · refine G.scalar_cells (f := Value.int .i64) fun j x hj => ?_
      rw [List.getElem?_map] at hj
      cases hx : d'.toList[j]? with
      | none => rw [hx] at hj; cases hj
      | some y =>
        rw [hx] at hj
        simp only [Option.map_some, Option.some.injEq] at hj
        have hj' := (List.getElem?_eq_some_iff.1 hx).1
        have hjs : j < d'.size := by simpa using hj'
        have := (hh j hjs).1
        rw [this, getElem!_pos d' j hjs]
        have e := (List.getElem?_eq_some_iff.1 hx).2
        unfold encL
        rw [← hj, ← e]
        simp
  have HKey := Lib.hid key
  have HChg := Lib.hid (fun (k : Nat) (os : Array Obj) => chg_sort encL w g o k d' os)
  have HP := Lib.hid hperm
  have HS := Lib.hid hsrt
  clear_value d
  clear hcon p1 p3 hso hperm hlen' hsrt key hH hdg hdl hds hcells hcell hsp hb
  go_enter Try.func55, Try.ntmps55
  go_wp2_with fail
  refine HCon.out.mono ?_
  rintro e w' ⟨rfl, k, os, rfl⟩
  go_wp2
  go_ret
  exact ⟨rfl, _, HP.out, HS.out, HKey.out k os, HChg.out k os⟩
end Go.Proofs.Ytggfjfmgclcnlaa.Zb
