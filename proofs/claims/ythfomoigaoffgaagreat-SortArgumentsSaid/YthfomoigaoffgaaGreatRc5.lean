/- Walks of the reference: Check, Below, Less. -/
import Derived.Test.YthfomoigaoffgaaGreatRc4
import Derived.Test.YthfomoigaoffgaaGreatAr4
namespace Go.Proofs.YthfomoigaoffgaaGreat.Rc
open Go Go.RowKit Go.Proofs.YthfomoigaoffgaaGreat.K Go.Proofs.YthfomoigaoffgaaGreat.G Go.Proofs.YthfomoigaoffgaaGreat.Ix Go.Proofs.YthfomoigaoffgaaGreat.O Go.Proofs.YthfomoigaoffgaaGreat.So Go.Proofs.YthfomoigaoffgaaGreat.Rf
set_option linter.unusedSimpArgs false
set_option linter.unusedVariables false

theorem regL_iff (ok : ByteArray → Bool) : ∀ (L : List Bool) (cs : List Cl), L.length = cs.length → (regL ok L cs = true ↔ ∀ j (h : j < cs.length), L[j]? = some true → ok (cs[j]'h).1 = true)
  | [], [], _ => ⟨fun _ j h => absurd h (Nat.not_lt_zero _), fun _ => rfl⟩
  | [], _ :: _, h => by simp at h
  | _ :: _, [], h => by simp at h
  | b :: l, c :: r, h => by
    rw [regL, Bool.and_eq_true, regL_iff ok l r (by simpa using h)]
    constructor
    · rintro ⟨h1, h2⟩ j hj e
      cases j with
      | zero =>
        simp only [List.getElem?_cons_zero, Option.some.injEq] at e
        subst e
        exact h1
      | succ j => exact h2 j (by simpa using hj) (by simpa using e)
    · intro h1
      refine ⟨?_, fun j hj e => h1 (j + 1) (by simpa using hj) (by simpa using e)⟩
      cases b with
      | false => rfl
      | true => exact h1 0 (by simp) rfl
theorem regL_eq {cs : List Cl} (hR : Right [] cs) (ok : ByteArray → Bool) {p : Nat} (hp : p < cs.length) : regL ok (abR cs (p + 1) ((List.replicate cs.length false).set p true)) cs = (abL cs (cs[p]'hp).1).all ok := by
  rw [Bool.eq_iff_iff, regL_iff ok _ _ (by rw [abR_len]; simp), List.all_eq_true]
  constructor
  · intro h x hx
    have hb : belowB cs (cs[p]'hp).1 x = true := List.contains_iff_mem.2 hx
    obtain ⟨j, hj, rfl, _⟩ := reach_le hR (below_iff.1 hb) p hp rfl
    exact h j hj (by rw [abR_below hR hp hj, hb])
  · intro h j hj e
    rw [abR_below hR hp hj] at e
    exact h _ (List.contains_iff_mem.1 (Option.some.inj e))
theorem sortsX_known {cs : List Cl} : ∀ {l : List (List ByteArray)}, sortsX cs l = 0 → ∀ s ∈ l, knownB cs s = true
  | [], _ => fun s h => absurd h List.not_mem_nil
  | x :: r, h => by
    rw [sortsX] at h
    by_cases h1 : sortE cs x = 0
    · rw [if_neg (fun e => e h1)] at h
      intro s hs
      rcases List.mem_cons.1 hs with rfl | hs
      · unfold sortE at h1
        by_cases h2 : 20 < s.length
        · rw [if_pos h2] at h1; exact absurd h1 (by decide)
        · rw [if_neg h2] at h1
          by_cases h3 : knownB cs s = true
          · exact h3
          · rw [if_neg h3] at h1; exact absurd h1 (by decide)
      · exact sortsX_known h s hs
    · rw [if_pos h1] at h; exact absurd h h1
theorem oneE_ok {cs : List Cl} {ts : List Td} {met : List (ByteArray × ByteArray)} {a : Arx} (h : oneE cs ts met a = 0) : has cs a.2.1 = true ∧ ∀ s ∈ a.2.2, knownB cs s = true := by
  unfold oneE at h
  cases hn : args? ts a.1 with
  | none => rw [hn] at h; exact absurd (show (9 : Int) = 0 from h) (by decide)
  | some n =>
    rw [hn] at h
    replace h : (if has cs a.2.1 then (if met.contains (a.1, a.2.1) then 10 else if (a.2.2.length : Int) ≠ n then 5 else sortsX cs a.2.2) else 9) = 0 := h
    by_cases h1 : has cs a.2.1 = true
    · rw [if_pos h1] at h
      by_cases h2 : met.contains (a.1, a.2.1) = true
      · rw [if_pos h2] at h; exact absurd h (by decide)
      · rw [if_neg h2] at h
        by_cases h3 : (a.2.2.length : Int) = n
        · rw [if_neg (fun e => e h3)] at h
          exact ⟨h1, sortsX_known h⟩
        · rw [if_pos h3] at h; exact absurd h (by decide)
    · rw [if_neg h1] at h; exact absurd h (by decide)
theorem arE_ok {cs : List Cl} {ts : List Td} : ∀ {ars : List Arx} {met : List (ByteArray × ByteArray)}, arE cs ts met ars = 0 → ∀ a ∈ ars, has cs a.2.1 = true ∧ ∀ s ∈ a.2.2, knownB cs s = true
  | [], _, _ => fun a h => absurd h List.not_mem_nil
  | d :: r, met, h => by
    rw [arE_one] at h
    by_cases h1 : oneE cs ts met d = 0
    · rw [if_neg (fun e => e h1)] at h
      intro a ha
      rcases List.mem_cons.1 ha with rfl | ha
      · exact oneE_ok h1
      · exact arE_ok h a ha
    · rw [if_pos h1] at h; exact absurd h h1
theorem arsOk_of {T : Thy} (h : arE T.cls T.tys [] T.ars = 0) : ArsOk T := ⟨arE_ok h, Ch.are_find h⟩
theorem classes_few {cs : List Cl} (h : classesE cs = 0) : cs.length ≤ 300 := by
  unfold classesE at h
  by_cases h1 : 300 < cs.length
  · rw [if_pos h1] at h; exact absurd h (by decide)
  · omega
theorem regularB_calls (S : Nat → Prop) (r : Raw) (T : Thy) (w : World) (hT : ThyR S w r T) (hR : Right [] T.cls) (hn : T.cls.length ≤ 1000000) (hok : ArsOk T) (i : Nat) (hi : i < T.ars.length) :
    Calls Tryz.prog 50 #[thyV r T, .int .i64 (i : Int)] w fun e w' => e = .returned (.bool (regB T.cls T.ars (T.ars[i]'hi))) ∧ Below w.heap.size w w' := by
  obtain ⟨p, hp, ep⟩ := has_idx (hok.1 _ (List.getElem_mem hi)).1
  have := regular_calls S r T w hT hR hn hok i hi p hp ep
  rw [regL_eq hR _ hp, ep] at this
  exact this

set_option maxRecDepth 100000 in
set_option maxHeartbeats 4000000 in
theorem Check_calls (S : Nat → Prop) (r : Raw) (T : Thy) (w : World) (hT : ThyR S w r T) (hsm : ∀ d ∈ T.tys, d.1.size ≤ maxLen) :
    Calls Tryz.prog 24 #[thyV r T] w fun e w' => e = .returned (.int .i64 (checkT T.cls T.tys T.ars)) ∧ Below w.heap.size w w' := by
  have HCl := Lib.hid (fun (W : World) (hb : Below w.heap.size w W) => Rf.classes_calls S r T W (hT.below hb))
  have HCt := Lib.hid (fun (W : World) (hb : Below w.heap.size w W) => Rc.constructors_calls S r T W (hT.below hb) hsm)
  have HOn := Lib.hid (fun (W : World) (hb : Below w.heap.size w W) hR hn i hi => one_calls S r T W (hT.below hb) hR hn i hi)
  have HRe := Lib.hid (fun (W : World) (hb : Below w.heap.size w W) hR hn hok i hi => regularB_calls S r T W (hT.below hb) hR hn hok i hi)
  have hlm : T.ars.length ≤ 9223372036854775807 := hT.ars.len
  have hag := Tryz.isAgg29
  have hsz := Tryz.sizeOf29
  obtain ⟨W1, hW1⟩ : ∃ W1, w.alloc (.cells (thyC r T) 29) = W1 := ⟨_, rfl⟩
  have HB1 := Lib.hid (show Below w.heap.size w W1 by rw [← hW1]; exact (Below.refl _ _).alloc (Nat.le_refl _) _)
  have HT1 := Lib.hid (show W1.heap[w.heap.size]? = some (.cells (thyC r T) 29 (0, 0)) by rw [← hW1]; exact World.alloc_heap_new w _)
  obtain ⟨y0, y1, y2, y3, y4, y5, y6⟩ := thy_cells' HT1.out
  generalize hCC : checkT T.cls T.tys T.ars = R
  have HR := Lib.hid hCC
  clear hT hsm hCC
  unfold thyV thyC at HCl HCt HOn HRe
  unfold thyV
  unfold thyC at hW1 ⊢
  go_enter Tryz.func24, Tryz.ntmps24
  go_wp2_with fail
  refine (HCl.out _ HB1.out).mono ?_
  rintro e w2 ⟨rfl, hb2⟩
  have HB2 := Lib.hid (HB1.out.trans (hb2.mono HB1.out.size))
  have HT2 := Lib.hid (box_below HT1.out hb2)
  obtain ⟨z0, z1, z2, z3, z4, z5, z6⟩ := thy_cells' HT2.out
  clear hb2 hW1 y0 y1 y2 y3 y4 y5 y6 HT1
  by_cases h1 : classesE T.cls = 0
  · have hRt := classes_right h1
    have hfw := classes_few h1
    have hR := HR.out
    unfold checkT at hR
    rw [if_neg (fun e => e h1)] at hR
    have HOn := Lib.hid (fun (W : World) (hb : Below w.heap.size w W) i hi => HOn.out W hb hRt (by omega) i hi)
    have HRe := Lib.hid (fun (W : World) (hb : Below w.heap.size w W) hok i hi => HRe.out W hb hRt (by omega) hok i hi)
    have HCt2 := Lib.hid (HCt.out _ HB2.out)
    generalize hE2 : constrE T.tys = E2 at hR HCt2
    have HR := Lib.hid hR
    rw [h1]
    clear hR hRt hfw h1 hE2
    go_wp2_with fail
    refine HCt2.out.mono ?_
    rintro e w3 ⟨rfl, hb3⟩
    have HB3 := Lib.hid (HB2.out.trans (hb3.mono HB2.out.size))
    have HT3 := Lib.hid (box_below HT2.out hb3)
    clear hb3 z0 z1 z2 z3 z4 z5 z6 HT2
    obtain ⟨z0, z1, z2, z3, z4, z5, z6⟩ := thy_cells' HT3.out
    by_cases h2 : E2 = 0
    · subst h2
      have hR := HR.out
      rw [if_neg (by decide)] at hR
      unfold aritiesE at hR
      by_cases h300 : 300 < T.ars.length
      · rw [if_pos h300] at hR
        subst hR
        have g : (300 : Int) < (T.ars.length : Int) := by omega
        clear HR h300
        go_wp2
        go_ret
        exact ⟨rfl, HB3.out⟩
      · rw [if_neg h300] at hR
        have g : ¬ (300 : Int) < (T.ars.length : Int) := by omega
        generalize hE3 : arE T.cls T.tys [] T.ars = E3 at hR
        have HA0 := Lib.hid hE3
        have HE3 := Lib.hid (show arE T.cls T.tys ((T.ars.take 0).map (fun a => (a.1, a.2.1))) (T.ars.drop 0) = E3 from hE3)
        have HR := Lib.hid hR
        clear hR hE3 h300
        go_wp2
        clear z0 z1 z2 z3 z4 z5 z6
        go_loopg [5] T.ars.length (fun gg v wr => ∃ k : Nat, v = .int .i64 k ∧ k ≤ T.ars.length ∧ T.ars.length - k ≤ gg ∧ Hid (arE T.cls T.tys ((T.ars.take k).map (fun a => (a.1, a.2.1))) (T.ars.drop k) = E3) ∧ Hid (Below w.heap.size w wr) ∧ Hid (wr.heap[w.heap.size]? = some (.cells (thyC r T) 29 (0, 0))))
        case atStart => exact ⟨0, rfl, by omega, by omega, HE3, HB3, HT3⟩
        case round =>
          clear HE3 HB3 HT3
          obtain ⟨k, rfl, hk, hg, HE, HB, HT⟩ := hrel
          obtain ⟨z0, z1, z2, z3, z4, z5, z6⟩ := thy_cells' HT.out
          by_cases hlt : k < T.ars.length
          · have hltz : (k : Int) < (T.ars.length : Int) := by omega
            have Hlt := Lib.hid hlt
            have Htk := Lib.hid (Ch.ars_take T.ars k hlt)
            have hE := HE.out
            rw [List.drop_eq_getElem_cons hlt, arE_one] at hE
            have HO1 := Lib.hid (HOn.out wr HB.out k hlt)
            rw [← Htk.out] at hE
            generalize oneE T.cls T.tys ((T.ars.take k).map (fun a => (a.1, a.2.1))) (T.ars[k]'hlt) = X at HO1 hE
            have HE2 := Lib.hid hE
            clear hE HE Htk
            go_wp2_with fail
            refine HO1.out.mono ?_
            rintro e w4 ⟨rfl, hb4⟩
            have HB4 := Lib.hid (HB.out.trans (hb4.mono HB.out.size))
            have HT4 := Lib.hid (box_below HT.out hb4)
            clear hb4 z0 z1 z2 z3 z4 z5 z6
            by_cases hX : X = 0
            · subst hX
              have HE3 := Lib.hid (show arE T.cls T.tys ((T.ars.take (k + 1)).map (fun a => (a.1, a.2.1))) (T.ars.drop (k + 1)) = E3 from (if_neg (by decide)).symm.trans HE2.out)
              clear HE2
              go_wp2
              go_roundg (T.ars.length - (k + 1))
              case measure => omega
              case rel => exact ⟨k + 1, by go_num, Hlt.out, Nat.le_refl _, HE3, HB4, HT4⟩
            · have hx := HE2.out
              rw [if_pos hX] at hx
              subst hx
              have hR := HR.out
              rw [if_pos hX] at hR
              subst hR
              have gX : (X != 0) = true := bne_iff_ne.2 hX
              clear hX HE2 HR HA0
              go_wp2
              go_ret
              exact ⟨rfl, HB4.out⟩
          · have hltz : ¬ (k : Int) < (T.ars.length : Int) := by omega
            have hE := HE.out
            rw [List.drop_eq_nil_of_le (by omega), arE] at hE
            subst hE
            have HR2 := Lib.hid (show (if (T.ars.drop 0).all (regB T.cls T.ars) then (0 : Int) else 31) = R from (if_neg (by decide)).symm.trans HR.out)
            have HRg := Lib.hid (fun (W : World) (hb : Below w.heap.size w W) i hi => HRe.out W hb (arsOk_of HA0.out) i hi)
            clear HE HR HA0
            go_wp2
            clear z0 z1 z2 z3 z4 z5 z6
            go_loopg [7] T.ars.length (fun gg v wr => ∃ k : Nat, v = .int .i64 k ∧ k ≤ T.ars.length ∧ T.ars.length - k ≤ gg ∧ Hid ((if (T.ars.drop k).all (regB T.cls T.ars) then (0 : Int) else 31) = R) ∧ Hid (Below w.heap.size w wr) ∧ Hid (wr.heap[w.heap.size]? = some (.cells (thyC r T) 29 (0, 0))))
            case atStart => exact ⟨0, rfl, by omega, by omega, HR2, HB, HT⟩
            case round =>
              clear HR2 HB HT
              obtain ⟨k, rfl, hk, hg, HR, HB, HT⟩ := hrel
              obtain ⟨z0, z1, z2, z3, z4, z5, z6⟩ := thy_cells' HT.out
              by_cases hlt : k < T.ars.length
              · have hltz : (k : Int) < (T.ars.length : Int) := by omega
                have Hlt := Lib.hid hlt
                have hR := HR.out
                rw [List.drop_eq_getElem_cons hlt, List.all_cons] at hR
                have HG := Lib.hid (HRg.out wr HB.out k hlt)
                generalize regB T.cls T.ars (T.ars[k]'hlt) = X at HG hR
                have HR2 := Lib.hid hR
                clear hR HR
                go_wp2_with fail
                refine HG.out.mono ?_
                rintro e w4 ⟨rfl, hb4⟩
                have HB4 := Lib.hid (HB.out.trans (hb4.mono HB.out.size))
                have HT4 := Lib.hid (box_below HT.out hb4)
                clear hb4 z0 z1 z2 z3 z4 z5 z6
                cases X with
                | true =>
                  have HR3 := Lib.hid (show (if (T.ars.drop (k + 1)).all (regB T.cls T.ars) then (0 : Int) else 31) = R by have := HR2.out; rwa [Bool.true_and] at this)
                  clear HR2
                  go_wp2
                  go_roundg (T.ars.length - (k + 1))
                  case measure => omega
                  case rel => exact ⟨k + 1, by go_num, Hlt.out, Nat.le_refl _, HR3, HB4, HT4⟩
                | false =>
                  obtain rfl : (31 : Int) = R := by have := HR2.out; rw [Bool.false_and, if_neg (by decide)] at this; exact this
                  clear HR2
                  go_wp2
                  go_ret
                  exact ⟨rfl, HB4.out⟩
              · have hltz : ¬ (k : Int) < (T.ars.length : Int) := by omega
                have hR := HR.out
                rw [List.drop_eq_nil_of_le (by omega), List.all_nil, if_pos rfl] at hR
                subst hR
                clear HR
                go_wp2
                go_ret
                exact ⟨rfl, HB.out⟩
    · have hR := HR.out
      rw [if_pos h2] at hR
      subst hR
      have gX : (E2 != 0) = true := bne_iff_ne.2 h2
      clear h2 HR
      go_wp2
      go_ret
      exact ⟨rfl, HB3.out⟩
  · have hR := HR.out
    unfold checkT at hR
    rw [if_pos h1] at hR
    rw [hR]
    rw [hR] at h1
    have gX : (R != 0) = true := bne_iff_ne.2 h1
    clear h1 HR hR
    go_wp2
    go_ret
    exact ⟨rfl, HB2.out⟩

end Go.Proofs.YthfomoigaoffgaaGreat.Rc
