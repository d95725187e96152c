/- slices.DeleteFunc at strings, over a predicate that may make memory; a sorted row, compacted. -/
import Derived.Test.YthfomoigaoffgaaGreatIx
import Derived.Test.YthfomoigaoffgaaGreatOw
import Derived.Lib.SliceRun
import Derived.Sort.Row
import Derived.Sort.Grow
namespace Go.Proofs.YthfomoigaoffgaaGreat.So
open Go Go.RowKit Go.Proofs.YthfomoigaoffgaaGreat.K Go.Proofs.YthfomoigaoffgaaGreat.G Go.Proofs.YthfomoigaoffgaaGreat.Ix
set_option linter.unusedSimpArgs false
set_option linter.unusedVariables false

/-- a row of strings at a place -/
def RowS (w : World) (g o : Nat) (l : List ByteArray) : Prop := ∀ j x, l[j]? = some x → w.cell? ⟨g, o + j, none⟩ = some (.string x)
theorem rowS_of {S : Nat → Prop} {w : World} {g o : Nat} {l : List ByteArray} (h : Cells str S w g o l) : RowS w g o l := fun j x hj => by
  obtain ⟨cs, rfl, hc⟩ := h j x hj
  have := hc 0 _ rfl
  have e : str.sz = 1 := rfl
  rwa [e, Nat.mul_one, Nat.add_zero] at this
theorem rowS_cells {S : Nat → Prop} {w : World} {g o : Nat} {l : List ByteArray} (h : RowS w g o l) : Cells str S w g o l := scalar_cells h
theorem rowS_set {w : World} {g o : Nat} {l : List ByteArray} (h : RowS w g o l) (i : Nat) (hi : i < l.length) (x : ByteArray) : RowS (w.setCell ⟨g, o + i, none⟩ (.string x)) g o (l.set i x) := fun j y hj => by
  have hjl : j < l.length := by have := (List.getElem?_eq_some_iff.1 hj).1; rwa [List.length_set] at this
  by_cases e : j = i
  · subst e
    rw [List.getElem?_set_self hjl] at hj
    cases hj
    exact World.cell?_setCell_same' _ _ _ (by rw [h j _ (List.getElem?_eq_getElem hjl)]; rfl)
  · rw [List.getElem?_set_ne (Ne.symm e)] at hj
    rw [World.cell?_setCell_other _ _ _ _ (by intro e'; simp only [Addr.mk.injEq] at e'; omega)]
    exact h j y hj
theorem take_set_snoc {l : List ByteArray} {i : Nat} (hi : i < l.length) (x : ByteArray) : (l.set i x).take (i + 1) = l.take i ++ [x] := by
  rw [List.take_succ_eq_append_getElem (by rw [List.length_set]; exact hi), List.getElem_set_self, List.take_set_of_le (Nat.le_refl _)]

set_option maxRecDepth 100000 in
set_option maxHeartbeats 4000000 in
theorem DeleteFunc_calls (p : ByteArray → Bool) (gf : Nat) (lb : Array Value) (eg : ∀ args w, (callFunc gf args).run Tryz.prog w = .ok (.enter gf args) w) (base g o cap : Nat) (S : Nat → Prop) (xs : List ByteArray) (w : World)
    (h : Mine str base S w (.slice (some ⟨g, o, none⟩) xs.length cap) xs) (hcap : 0 < cap)
    (hp : ∀ W x, x ∈ xs → Chg (fun k => k = g) w W → Calls Tryz.prog gf (#[.string x] ++ lb) W fun e W' => e = .returned (.bool (p x)) ∧ Below W.heap.size W W') :
    Calls Tryz.prog 62 #[.slice (some ⟨g, o, none⟩) xs.length cap, .func (.func gf) #[] lb] w fun e w' =>
      e = .returned (.slice (some ⟨g, o, none⟩) (xs.filter fun x => !p x).length cap) ∧ Mine str base S w' (.slice (some ⟨g, o, none⟩) (xs.filter fun x => !p x).length cap) (xs.filter fun x => !p x) ∧ Chg (fun k => k = g) w w' := by
  have hread := h.read
  obtain ⟨A', cap', e, hle, hcm, hA⟩ := h
  injection e with e1 _ e3
  subst e1; subst e3
  rcases hA with ⟨e, _⟩ | ⟨g', o', e, hg, hlt, hsp, hcells⟩
  · cases e
  injection e with e
  injection e with e1 e2 _
  subst e1; subst e2
  have hm : xs.length ≤ 9223372036854775807 := by unfold maxLen at hcm; omega
  have hcm2 : cap ≤ 9223372036854775807 := hcm
  have hrow := rowS_of hcells
  have hIF := IndexFunc_string str _ rfl p gf lb eg (some ⟨g, o, none⟩) cap xs w (fun W x cs hx hb hK => by
    obtain rfl : cs = [.string x] := hK
    exact hp W x hx (Chg.of_fresh hb)) hread.2.2 hle
  -- what is shown of a row that is cut to what is kept
  have fin : ∀ (W : World) (l : List ByteArray), l.length ≤ xs.length → RowS W g o l → Chg (fun k => k = g) w W → (∀ j, j < cap → (W.cell? ⟨g, o + j, none⟩).isSome = true ∧ W.frozen? ⟨g, o + j, none⟩ = false) → Mine str base S W (.slice (some ⟨g, o, none⟩) l.length cap) l :=
    fun W l hl hr hc hs => ⟨some ⟨g, o, none⟩, cap, rfl, by omega, hcm, .inr ⟨g, o, rfl, hg, by have := hc.size; omega, fun j hj => hs j (by
      have e : str.sz = 1 := rfl
      rw [e, Nat.mul_one] at hj; exact hj), rowS_cells hr⟩⟩
  have hsp' : ∀ j, j < cap → (w.cell? ⟨g, o + j, none⟩).isSome = true ∧ w.frozen? ⟨g, o + j, none⟩ = false := fun j hj => hsp j (by
    have e : str.sz = 1 := rfl
    rw [e, Nat.mul_one]; exact hj)
  have HP := Lib.hid hp
  have HF := Lib.hid fin
  have HSP := Lib.hid hsp'
  have HROW := Lib.hid hrow
  clear hp fin hsp' hrow hsp hcells hread hcm hg
  rcases idxP_range p xs 0 with e | ⟨k0, hk0, e, ht, hall⟩
  · have hfil : xs.filter (fun x => !p x) = xs := by
      rw [List.filter_eq_self]
      intro x hx
      have h1 := idxP_any p xs 0
      rw [e] at h1
      have h2 : xs.any p = false := by rw [← h1]; rfl
      rw [List.any_eq_false] at h2
      have := h2 x hx
      cases hq : p x with
      | false => rfl
      | true => exact absurd hq this
    rw [e] at hIF
    have HI := Lib.hid hIF
    rw [hfil]
    clear hIF e hfil
    go_enter Tryz.func62, Tryz.ntmps62
    go_wp2_with (go_at_call 54; refine HI.out.mono ?_; rintro e w' ⟨rfl, hb⟩)
    go_ret
    have hc := Chg.of_fresh (T := fun k => k = g) hb
    exact ⟨rfl, HF.out _ _ (Nat.le_refl _) (fun j x hj => (hb.cell (p := ⟨g, o + j, none⟩) hlt).trans (HROW.out j x hj)) hc (fun j hj => by
      rw [hb.cell (p := ⟨g, o + j, none⟩) hlt, hb.frozen (p := ⟨g, o + j, none⟩) hlt]; exact HSP.out j hj), hc⟩
  · rw [e, Nat.zero_add] at hIF
    have HI := Lib.hid hIF
    generalize hFL : xs.filter (fun x => !p x) = FL
    have HFL := Lib.hid hFL
    clear hFL
    have hne1 : ((k0 : Int) == -1) = false := beq_eq_false_iff_ne.2 (by omega)
    have hlow : xs.take k0 = (xs.take (k0 + 1)).filter (fun x => !p x) := by
      rw [List.take_succ_eq_append_getElem hk0, List.filter_append]
      have e1 : (xs.take k0).filter (fun x => !p x) = xs.take k0 := by
        rw [List.filter_eq_self]
        intro x hx
        obtain ⟨j, hj, rfl⟩ := List.mem_iff_getElem.1 hx
        rw [List.length_take] at hj
        rw [List.getElem_take, hall j (by omega)]; rfl
      rw [e1]
      simp [ht]
    have HLOW := Lib.hid hlow
    clear hIF e hlow ht hall
    go_enter Tryz.func62, Tryz.ntmps62
    go_wp2_with (go_at_call 54; refine HI.out.mono ?_; rintro e w1 ⟨rfl, hb⟩)
    have HB := Lib.hid hb
    clear hb
    go_loopg [5, 6, 7] xs.length (fun gg s5 s6 _ wr => ∃ (i j : Nat) (l : List ByteArray), s5 = .int .i64 i ∧ s6 = .int .i64 j ∧ i < j ∧ j ≤ xs.length ∧ xs.length - j ≤ gg ∧ Hid (l.length = xs.length) ∧ Hid (l.take i = (xs.take j).filter fun x => !p x) ∧ Hid (l.drop j = xs.drop j) ∧
      Hid (RowS wr g o l) ∧ Hid (Chg (fun k => k = g) w wr) ∧ Hid (∀ j, j < cap → (wr.cell? ⟨g, o + j, none⟩).isSome = true ∧ wr.frozen? ⟨g, o + j, none⟩ = false))
    case atStart => exact ⟨k0, k0 + 1, xs, rfl, by go_num, by omega, by omega, by omega, Lib.hid rfl, HLOW, Lib.hid rfl, Lib.hid (fun j x hj => (HB.out.cell (p := ⟨g, o + j, none⟩) hlt).trans (HROW.out j x hj)), Lib.hid (Chg.of_fresh HB.out), Lib.hid (fun j hj => by
      rw [HB.out.cell (p := ⟨g, o + j, none⟩) hlt, HB.out.frozen (p := ⟨g, o + j, none⟩) hlt]; exact HSP.out j hj)⟩
    case round =>
      clear HLOW HI hne1
      obtain ⟨i, j, l, rfl, rfl, hij, hjn, hgg, HL, HT, HD, HR, HC, HS⟩ := hrel
      by_cases hjl : j < xs.length
      · have hltz : (j : Int) < (xs.length : Int) := by omega
        have Hjl := Lib.hid hjl
        have hlj : j < l.length := by rw [HL.out]; exact hjl
        have hli : i < l.length := by omega
        have hxe : l[j]'hlj = xs[j]'hjl := by
          have h1 : (l.drop j)[0]? = (xs.drop j)[0]? := by rw [HD.out]
          rw [List.getElem?_drop, List.getElem?_drop, Nat.add_zero, List.getElem?_eq_getElem hlj, List.getElem?_eq_getElem hjl] at h1
          exact Option.some.inj h1
        have hcj := HR.out j _ (List.getElem?_eq_getElem hlj)
        have hci := HR.out i _ (List.getElem?_eq_getElem hli)
        have hfi := (HS.out i (by omega)).2
        rw [hxe] at hcj
        have hd1 : l.drop (j + 1) = xs.drop (j + 1) := by
          have : (l.drop j).drop 1 = (xs.drop j).drop 1 := by rw [HD.out]
          rwa [List.drop_drop, List.drop_drop] at this
        have HD1 := Lib.hid hd1
        have Htk : Hid (xs.take (j + 1) = xs.take j ++ [xs[j]'hjl]) := by rw [List.take_succ_eq_append_getElem hjl]; exact Lib.hid rfl
        have hcall := HP.out wr _ (List.getElem_mem hjl) HC.out
        generalize xs[j]'hjl = x at hcj hcall Htk
        have HCALL := Lib.hid hcall
        have hltr : g < wr.heap.size := by have := HC.out.size; omega
        clear hcall hxe hd1 hlj
        generalize l[i]'hli = old at hci
        cases hq : p x with
        | false =>
          have HC2 := HCALL.out
          rw [hq] at HC2
          have HCALL := Lib.hid HC2
          have Hq := Lib.hid hq
          clear HC2 hq
          go_wp2_with fail
          refine HCALL.out.mono ?_
          rintro e w2 ⟨rfl, hb2⟩
          have hci2 := (hb2.cell (p := ⟨g, o + i, none⟩) hltr).trans hci
          have hfi2 := (hb2.frozen (p := ⟨g, o + i, none⟩) hltr).trans hfi
          have HB2 := Lib.hid hb2
          clear hb2 hci hfi hcj
          go_wp2
          go_roundg (xs.length - (j + 1))
          case measure => omega
          case rel =>
            refine ⟨i + 1, j + 1, l.set i x, by go_num, by go_num, by omega, Hjl.out, Nat.le_refl _, Lib.hid (by rw [List.length_set]; exact HL.out), ?_, ?_, ?_, ?_, ?_⟩
            · have hli : i < l.length := by have := HL.out; omega
              have h1 : (l.set i x).take (i + 1) = (xs.take (j + 1)).filter fun x => !p x := by
                rw [take_set_snoc hli, HT.out, Htk.out, List.filter_append]
                simp [Hq.out]
              exact Lib.hid h1
            · have h1 : (l.set i x).drop (j + 1) = xs.drop (j + 1) := by rw [List.drop_set_of_lt (by omega)]; exact HD1.out
              exact Lib.hid h1
            · exact Lib.hid (rowS_set (fun q y hy => (HB2.out.cell (p := ⟨g, o + q, none⟩) hltr).trans (HR.out q y hy)) i (by have := HL.out; omega) x)
            · exact Lib.hid ((HC.out.trans (Chg.of_fresh HB2.out)).trans (Chg.setCell (T := fun k => k = g) (p := ⟨g, o + i, none⟩) rfl _))
            · refine Lib.hid (fun q hq => ?_)
              rw [World.frozen?_setCell, HB2.out.frozen (p := ⟨g, o + q, none⟩) hltr]
              refine ⟨?_, (HS.out q hq).2⟩
              by_cases e : q = i
              · subst e
                rw [World.cell?_setCell_same' _ _ _ (by rw [hci2]; rfl)]; rfl
              · rw [World.cell?_setCell_other _ _ _ _ (by intro e'; simp only [Addr.mk.injEq] at e'; omega), HB2.out.cell (p := ⟨g, o + q, none⟩) hltr]
                exact (HS.out q hq).1
        | true =>
          have HC2 := HCALL.out
          rw [hq] at HC2
          have HCALL := Lib.hid HC2
          have Hq := Lib.hid hq
          clear HC2 hq hci hfi
          go_wp2_with fail
          refine HCALL.out.mono ?_
          rintro e w2 ⟨rfl, hb2⟩
          have HB2 := Lib.hid hb2
          clear hb2 hcj
          go_wp2
          go_roundg (xs.length - (j + 1))
          case measure => omega
          case rel =>
            refine ⟨i, j + 1, l, rfl, by go_num, by omega, Hjl.out, Nat.le_refl _, HL, ?_, HD1, ?_, ?_, ?_⟩
            · have h1 : l.take i = (xs.take (j + 1)).filter fun x => !p x := by
                rw [HT.out, Htk.out, List.filter_append]
                simp [Hq.out]
              exact Lib.hid h1
            · exact Lib.hid (fun q y hy => (HB2.out.cell (p := ⟨g, o + q, none⟩) hltr).trans (HR.out q y hy))
            · exact Lib.hid (HC.out.trans (Chg.of_fresh HB2.out))
            · exact Lib.hid (fun q hq => by
                rw [HB2.out.cell (p := ⟨g, o + q, none⟩) hltr, HB2.out.frozen (p := ⟨g, o + q, none⟩) hltr]; exact HS.out q hq)
      · have ej : j = xs.length := by omega
        have hltz : ¬ (j : Int) < (xs.length : Int) := by omega
        have hcl : ∀ ty, (Builtin.clear_ #[27] ty #[.slice (some ⟨g, o + i, none⟩) (xs.length - i) (cap - i)]).run Tryz.prog wr = .ok (.tuple #[]) (wr.setCells g (o + i) (List.replicate (xs.length - i) (.string ⟨#[]⟩))) :=
          fun ty => Lib.run_clear_slice wr _ _ ty _ Tryz.underlying27 Tryz.zeroValue9 rfl rfl g (o + i) _ _ (by omega) (fun t ht => by rw [Nat.add_assoc]; exact (HS.out (i + t) (by omega)).1) (fun t ht => by rw [Nat.add_assoc]; exact (HS.out (i + t) (by omega)).2)
        have hT := HT.out
        rw [ej, List.take_length] at hT
        have hil : i ≤ l.length := by have := HL.out; omega
        have hlen : (xs.filter fun x => !p x).length = i := by rw [← hT, List.length_take]; omega
        rw [HFL.out] at hlen hT
        have HT2 := Lib.hid hT
        have Hlen := Lib.hid hlen
        clear hT hlen HT ej
        go_wp2
        go_ret
        refine ⟨by rw [Hlen.out]; rfl, ?_, ?_⟩
        · have := HF.out (wr.setCells g (o + i) (List.replicate (xs.length - i) (.string ⟨#[]⟩))) FL (by rw [Hlen.out]; omega) ?_ ?_ ?_
          · exact this
          · intro q y hy
            have hq := (List.getElem?_eq_some_iff.1 hy).1
            rw [Hlen.out] at hq
            rw [World.cell?_setCells_out g _ _ _ _ (fun _ _ => by show o + q < o + i ∨ _; omega)]
            refine HR.out q y ?_
            rw [← HT2.out, List.getElem?_take_of_lt hq] at hy
            exact hy
          · exact HC.out.trans (Chg.grown (grown_setCells wr g (o + i) _) (fun k e => .inl (by cases e; rfl)))
          · intro q hq
            rw [World.frozen?_setCells]
            refine ⟨?_, (HS.out q hq).2⟩
            by_cases hqi : i ≤ q ∧ q < xs.length
            · have h1 := World.cell?_setCells_in g (List.replicate (xs.length - i) (Value.string ⟨#[]⟩)) (o + i) wr (fun t ht => by rw [Nat.add_assoc]; rw [List.length_replicate] at ht; exact (HS.out (i + t) (by omega)).1) (q - i) (by rw [List.length_replicate]; omega)
              rw [show o + i + (q - i) = o + q by omega] at h1
              rw [h1]; rfl
            · rw [World.cell?_setCells_out g _ _ _ _ (fun _ _ => by show o + q < o + i ∨ o + i + _ ≤ o + q; rw [List.length_replicate]; omega)]
              exact (HS.out q hq).1
        · exact HC.out.trans (Chg.grown (grown_setCells wr g (o + i) _) (fun k e => .inl (by cases e; rfl)))
end Go.Proofs.YthfomoigaoffgaaGreat.So
