/- The walk of the law TokenParts: it returns true. -/
import Derived.Test.YtmkfeanggmjhmaaY2
import Derived.Deep.LoopGhost
namespace Go.Proofs.Ytmkfeanggmjhmaa.Y
open Go Go.RowKit Go.Shelf Go.Proofs.YtmkfeanggmjhmaaW.PrintWords Go.Proofs.YtmkfeanggmjhmaaW.PrintLast Go.Proofs.YtmkfeanggmjhmaaW.PrintMore
open Go.Proofs.Ytmkfeanggmjhmaa.M Go.Proofs.Ytmkfeanggmjhmaa.K Go.Proofs.Ytmkfeanggmjhmaa.E Go.Proofs.Ytmkfeanggmjhmaa.S Go.Proofs.Ytmkfeanggmjhmaa.PTokenParts Go.Proofs.Ytmkfeanggmjhmaa.Q
set_option linter.unusedSimpArgs false
set_option linter.unusedVariables false

/-- the cells of tokens, of which the first i are moved on -/
def turnC (m : Nat) (ys : List Tok) (tail : List Value) (i : Nat) : Array Value := (((ys.take i).map (shT m) ++ ys.drop i).flatMap tokCells ++ tail).toArray
theorem turnC_zero (m : Nat) (ys : List Tok) (tail : List Value) : turnC m ys tail 0 = (ys.flatMap tokCells ++ tail).toArray := by simp [turnC]
theorem turnC_all (m : Nat) (ys : List Tok) (tail : List Value) (i : Nat) (h : ys.length ≤ i) : turnC m ys tail i = ((ys.map (shT m)).flatMap tokCells ++ tail).toArray := by
  simp [turnC, List.take_of_length_le h, List.drop_eq_nil_of_le h]
theorem turnC_at (m : Nat) (ys : List Tok) (tail : List Value) (i : Nat) (h : i < ys.length) : (turnC m ys tail i)[i * 3 + 2]? = some (.int .i64 ((ys[i]'h).at_ : Int)) := by
  unfold turnC
  rw [List.getElem?_toArray, List.getElem?_append_left (by rw [flat_len]; simp; omega)]
  have hx : ((ys.take i).map (shT m) ++ ys.drop i)[i]? = some (ys[i]'h) := by
    rw [List.getElem?_append_right (by simp; omega), List.length_map, List.length_take, Nat.min_eq_left (by omega), Nat.sub_self, List.getElem?_drop, Nat.add_zero, List.getElem?_eq_getElem h]
  rw [flat_at _ i _ hx 2 (by decide)]
  rfl
theorem turnC_set (m : Nat) (ys : List Tok) (tail : List Value) (i : Nat) (h : i < ys.length) : (turnC m ys tail i).setIfInBounds (i * 3 + 2) (.int .i64 ((m + (ys[i]'h).at_ : Nat) : Int)) = turnC m ys tail (i + 1) := by
  unfold turnC
  apply Array.ext'
  rw [Array.toList_setIfInBounds]
  show List.set _ _ _ = _
  have e1 : ys.take (i + 1) = ys.take i ++ [ys[i]'h] := by rw [List.take_add_one, List.getElem?_eq_getElem h]; rfl
  have e2 : ys.drop i = ys[i]'h :: ys.drop (i + 1) := List.drop_eq_getElem_cons h
  rw [e1, e2]
  have e3 : ((ys.take i).map (shT m)).flatMap tokCells = ((ys.take i).map (shT m)).flatMap tokCells := rfl
  have hl : (((ys.take i).map (shT m)).flatMap tokCells).length = i * 3 := by rw [flat_len, List.length_map, List.length_take, Nat.min_eq_left (by omega)]
  simp only [List.flatMap_append, List.flatMap_cons, List.map_append, List.map_cons, List.map_nil, List.flatMap_nil, List.append_assoc, List.nil_append]
  rw [List.set_append_right _ _ (by rw [hl]; omega), hl, Nat.add_sub_cancel_left]
  rfl
theorem setRow_self (w : World) (g : Nat) (cs : Array Value) (t : TypeId) (fr : Nat × Nat) (h : w.heap[g]? = some (.cells cs t fr)) : w.setRow g cs = w := by
  have hlt : g < w.heap.size := (Array.getElem?_eq_some_iff.1 h).1
  have hv : w.heap[g] = .cells cs t fr := (Array.getElem?_eq_some_iff.1 h).2
  cases w with
  | mk heap tape drawn os output =>
    simp only [World.setRow]
    congr 1
    apply Array.ext
    · simp
    · intro k h1 h2
      simp only [Array.getElem_modify]
      split
      · rename_i hk; subst hk; simp only at hv; rw [hv]
      · rfl
theorem below_setRow {B : Nat} {w w1 : World} {g : Nat} (cs : Array Value) (h : Below B w w1) (hg : B ≤ g) : Below B w (w1.setRow g cs) :=
  ⟨h.os, h.tape, h.output, by simpa using h.size, fun k hk => (setRow_other w1 g k cs (by omega)).trans (h.block k hk)⟩
theorem own_else {w w' : World} {base : Nat} {e : TypeId} {size n : Nat} {v : Value} {xs : List Value} (h : w.ownsRow base e size v n xs) (hk : ∀ k, base ≤ k → k < w.heap.size → w'.heap[k]? = w.heap[k]?) : w'.ownsRow base e size v n xs := by
  obtain ⟨h1, h2⟩ := h
  refine ⟨h1, ?_⟩
  rcases h2 with h2 | ⟨g, cap, cur, hv, hg, hh, h3⟩
  · exact .inl h2
  · exact .inr ⟨g, cap, cur, hv, hg, by rw [hk g hg (Array.getElem?_eq_some_iff.1 hh).1]; exact hh, h3⟩

theorem sep_line (a b : ByteArray) : Sep a b (a ++ ⟨#[10]⟩ ++ b) 10 where
  eq := by
    have h1 : (a ++ (⟨#[10]⟩ : ByteArray) ++ b).data = a.data ++ #[10] ++ b.data := by
      rw [ByteArray.data_append, ByteArray.data_append]
    rw [h1]
    simp
  no := .inl rfl

set_option maxRecDepth 100000 in
set_option maxHeartbeats 4000000 in
theorem TokenParts_calls (A : Option Addr) (c : Nat) (l : List ByteArray) (hc : l.length ≤ c) (a b : ByteArray) (w : World) (hr : Kd.C Kd.string w A l.length l) :
    Calls Try.prog 4 #[.slice A l.length c, .string a, .string b] w fun r w' => r = .returned (.bool true) ∧ Below w.heap.size w w' := by
  have HF := Lib.hid (fun w hr => Few_calls 400 A c l hc a w hr)
  have HA := Lib.hid awake_calls
  have Hr := Lib.hid hr
  clear hr
  cases hf : fewB 400 l a with
  | false =>
    rw [hf] at HF
    clear hf
    go_enter Try.func4, Try.ntmps4
    go_wp2_with fail
    refine (HF.out _ Hr.out).mono ?_
    rintro e w' ⟨rfl, rfl⟩
    go_wp2_with fail
    refine (HA.out _).mono ?_
    rintro e w2 ⟨rfl, hb⟩
    go_wp2
    go_ret
    exact ⟨rfl, hb⟩
  | true =>
    rw [hf] at HF
    obtain ⟨hl20, ha4, hx⟩ := few_sizes hf
    clear hf
    by_cases hb4 : 400 < b.size
    · have hb4z : (400 : Int) < (b.size : Int) := by omega
      clear hx ha4 hl20 hb4
      go_enter Try.func4, Try.ntmps4
      go_wp2_with fail
      refine (HF.out _ Hr.out).mono ?_
      rintro e w' ⟨rfl, rfl⟩
      go_wp2_with fail
      refine (HA.out _).mono ?_
      rintro e w2 ⟨rfl, hb⟩
      go_wp2
      go_ret
      exact ⟨rfl, hb⟩
    · have hb4z : ¬ (400 : Int) < (b.size : Int) := by omega
      have hx' : ∀ x ∈ l, x.size ≤ 1000000000000 := fun x h => Nat.le_trans (hx x h) (by decide)
      have HS1 := Lib.hid (fun w hr => Scan_calls A c l hx' hc a w hr)
      have HS2 := Lib.hid (fun w hr => Scan_calls A c l hx' hc b w hr)
      have HS3 := Lib.hid (fun w hr => Scan_calls A c l hx' hc (a ++ ⟨#[10]⟩ ++ b) w hr)
      unfold ScanAllEnd at HS1 HS2 HS3
      have hS := sep_line a b
      have hz := hS.size
      generalize hsE : a ++ (⟨#[10]⟩ : ByteArray) ++ b = s at HS3 hS hz
      cases h1 : scanAll l a with
      | mk xs r1 =>
      obtain ⟨q1, e1⟩ := r1
      cases h2 : scanAll l b with
      | mk ys r2 =>
      obtain ⟨q2, e2⟩ := r2
      rw [h1] at HS1
      rw [h2] at HS2
      simp only at HS1 HS2
      obtain ⟨b1, b2, b3, b4, b5⟩ := all_bounds (by omega) h1
      obtain ⟨d1, d2, d3, d4, d5⟩ := all_bounds (by omega) h2
      by_cases he1 : e1 = 0
      · subst he1
        have hp := all_parts hS (by omega) h1 h2
        by_cases he2 : e2 = 0
        · subst he2
          rw [hp.1 rfl] at HS3
          simp only at HS3
          clear h1 h2 hp b3 b4 b5 d3 d4 d5 hx hx' hS hz hl20
          go_enter Try.func4, Try.ntmps4
          go_wp2_with fail
          refine (HF.out _ Hr.out).mono ?_
          rintro e w' ⟨rfl, rfl⟩
          go_wp2_with fail
          refine (HS1.out _ Hr.out).mono ?_
          rintro e3 w1 ⟨v1, rfl, ho1, hb1⟩
          have Ho1 := Lib.hid ho1
          have Hr1 := Lib.hid (Kd.C_below Hr.out hb1)
          clear ho1
          go_wp2_with fail
          refine (HS2.out _ Hr1.out).mono ?_
          rintro e4 w2 ⟨v2, rfl, ho2, hb2⟩
          have Hr2 := Lib.hid (Kd.C_below Hr1.out hb2)
          rcases row_cases ho2 with ⟨rfl, rfl⟩ | ⟨g, cap, tail, rfl, hg, hh, hcp, hcm, ht⟩
          · clear ho2
            go_wp2_with fail
            refine (HS3.out _ Hr2.out).mono ?_
            rintro e5 w3 ⟨v3, rfl, ho3, hb3⟩
            have Ho3 := Lib.hid ho3
            clear ho3
            have Hb1 := Lib.hid hb1
            have Hb2 := Lib.hid hb2
            have Hb3 := Lib.hid hb3
            clear hb1 hb2 hb3
            go_wp2
            go_loopg [70] 0 (fun gg v wr => v = .int .i64 0 ∧ wr = w3)
            case atStart => exact ⟨rfl, rfl⟩
            case round =>
              obtain ⟨rfl, rfl⟩ := hrel
              have z1 := Hb1.out.size
              have z2 := Hb2.out.size
              have z3 := Hb3.out.size
              have hbw : Below w'.heap.size w' wr := (Hb1.out.trans (Hb2.out.mono (by omega))).trans (Hb3.out.mono (by omega))
              have o1 : TokRow wr w'.heap.size v1 xs := own_else Ho1.out (fun k h1 h2 => by rw [Hb3.out.block k (by omega), Hb2.out.block k h2])
              have o2 : TokRow wr w1.heap.size (.slice none 0 0) [] := TokRow.nil _ _
              have o3 : TokRow wr w2.heap.size v3 (xs ++ []) := Ho3.out
              have Hbw := Lib.hid hbw
              have O2 := Lib.hid o2
              have O3 := Lib.hid o3
              have HC := Lib.hid (Clone_calls wr _ v1 xs o1 (by omega))
              have hlen : ([] : List Tok).length = 0 := rfl
              generalize ([] : List Tok) = ys' at O2 O3 hlen
              clear o1 o2 o3 hbw z1 z2 z3
              go_wp2_with fail
              refine HC.out.mono ?_
              rintro e w5 ⟨v5, rfl, h5, hb5⟩
              obtain ⟨v6, w6, hrun, h6, hb6⟩ := append_run h5 (own_below O2.out hb5) hb5.size (by omega)
              have HE := Equal_ev (xs ++ ys') (by rw [List.length_append]; omega)
              obtain ⟨k, hk⟩ := HE.at_
              obtain ⟨A6, c6, rfl, hc6, r6⟩ := hold_reads h6
              have o36 : TokRow w6 w2.heap.size v3 (xs ++ ys') := own_below O3.out (hb5.trans hb6)
              obtain ⟨A3, c3, rfl, hc3, r3⟩ := hold_reads (.inr o36)
              have hE := token_Token_13.calls k A3 c3 ((xs ++ ys').map s36) A6 c6 ((xs ++ ys').map s36) true w6 (by rw [List.length_map]; exact r3) (by rw [List.length_map]; exact hc3) (by rw [List.length_map]; exact r6) (by rw [List.length_map]; exact hc6) hk
              rw [List.length_map] at hE
              have HEq := Lib.hid hE
              have Hrun := Lib.hid hrun
              have hb56 := hb5.trans hb6
              have Hb56 := Lib.hid hb56
              clear hE hrun h5 h6 r6 r3 o36 hk HE hb5 hb6 hb56 O2 O3 hlen
              generalize (xs ++ ys').length = nn at HEq Hrun hc3 hc6
              go_wp2_with (first
                | (at_builtin; refine wpList_append_run rfl _ _ 27 rfl _ _ rfl rfl _ _ Hrun.out ?_)
                | (go_at_call 13; refine HEq.out.mono ?_; rintro e w7 ⟨rfl, ⟨nd, rfl⟩⟩)
                | (go_at_call 7; refine (HA.out _).mono ?_; rintro e w8 ⟨rfl, hb8⟩))
              go_ret
              have y1 := Hb56.out.size
              have y2 := Hbw.out.size
              have y3 : (w6.drewN nd).heap.size = w6.heap.size := rfl
              exact ⟨rfl, ((Hbw.out.trans (Hb56.out.mono (by omega))).trans (below_drewN (Below.refl _ _) nd)).trans (hb8.mono (by omega))⟩
          · clear ho2
            have Hh := Lib.hid hh
            clear hh
            go_wp2_with fail
            refine (HS3.out _ Hr2.out).mono ?_
            rintro e5 w3 ⟨v3, rfl, ho3, hb3⟩
            have Ho3 := Lib.hid ho3
            clear ho3
            have hglt : g < w2.heap.size := (Array.getElem?_eq_some_iff.1 Hh.out).1
            have hh3 : w3.heap[g]? = some (.cells (turnC (a.size + 1) ys tail 0) 36 (0, 0)) := by rw [turnC_zero]; exact (hb3.block g hglt).trans Hh.out
            have Hh3 := Lib.hid hh3
            have Hb1 := Lib.hid hb1
            have Hb2 := Lib.hid hb2
            have Hb3 := Lib.hid hb3
            clear hh3 Hh hb1 hb2 hb3
            go_wp2
            go_loopg [70] ys.length (fun gg v wr => ∃ i : Nat, v = .int .i64 i ∧ i ≤ ys.length ∧ ys.length - i ≤ gg ∧ Hid (wr = w3.setRow g (turnC (a.size + 1) ys tail i)))
            case atStart => exact ⟨0, by go_num, by omega, by omega, Lib.hid (setRow_self _ _ _ _ _ Hh3.out).symm⟩
            case round =>
              obtain ⟨i, rfl, hi, hgg, hwr⟩ := hrel
              by_cases hlt : i < ys.length
              · have hltz : (i : Int) < (ys.length : Int) := by omega
                have hwh : wr.heap[g]? = some (.cells (turnC (a.size + 1) ys tail i) 36 (0, 0)) := by rw [hwr.out]; exact setRow_heap _ _ _ _ _ _ Hh3.out
                have hat := d2 _ (List.getElem_mem hlt)
                have hcell : wr.cell? ⟨g, i * 3 + 2, none⟩ = some (.int .i64 ((ys[i]'hlt).at_ : Int)) := by rw [Lib.cell_of_heap hwh]; exact turnC_at _ _ _ _ hlt
                have hfro : wr.frozen? ⟨g, i * 3 + 2, none⟩ = false := Lib.frozen_of_heap hwh _
                have Hset := Lib.hid (turnC_set (a.size + 1) ys tail i hlt)
                generalize (ys[i]'hlt).at_ = t0 at hat hcell Hset
                have Hwh := Lib.hid hwh
                clear hwh
                go_wp2
                go_roundg (ys.length - (i + 1))
                case measure => omega
                case rel =>
                  refine ⟨i + 1, by go_num, by omega, Nat.le_refl _, Lib.hid ?_⟩
                  rw [setCell_eq_setRow _ _ _ _ _ _ _ Hwh.out, show ((t0 : Int) + ((a.size : Int) + 1)) = ((a.size + 1 + t0 : Nat) : Int) by omega, Hset.out, hwr.out, setRow_setRow]
              · have hltz : ¬ (i : Int) < (ys.length : Int) := by omega
                obtain rfl : i = ys.length := by omega
                have z1 := Hb1.out.size
                have z2 := Hb2.out.size
                have z3 := Hb3.out.size
                have hbw : Below w'.heap.size w' wr := by rw [hwr.out]; exact below_setRow _ ((Hb1.out.trans (Hb2.out.mono (by omega))).trans (Hb3.out.mono (by omega))) (by omega)
                have o1 : TokRow wr w'.heap.size v1 xs := own_else Ho1.out (fun k h1 h2 => by rw [hwr.out, setRow_other _ _ _ _ (by omega), Hb3.out.block k (by omega), Hb2.out.block k h2])
                have o2 : TokRow wr w1.heap.size (.slice (some ⟨g, 0, none⟩) ys.length cap) (ys.map (shT (a.size + 1))) := by
                  have := row_make (w := wr) (base := w1.heap.size) (g := g) (cap := cap) (xs := ys.map (shT (a.size + 1))) (tail := tail) hg (by rw [hwr.out, setRow_heap _ _ _ _ _ _ Hh3.out, turnC_all _ _ _ _ (Nat.le_refl _)]) (by rw [List.length_map]; exact hcp) hcm (by rw [List.length_map]; exact ht)
                  rwa [List.length_map] at this
                have o3 : TokRow wr w2.heap.size v3 (xs ++ ys.map (shT (a.size + 1))) := own_else Ho3.out (fun k h1 h2 => by rw [hwr.out, setRow_other _ _ _ _ (by omega)])
                have Hbw := Lib.hid hbw
                have O2 := Lib.hid o2
                have O3 := Lib.hid o3
                have HC := Lib.hid (Clone_calls wr _ v1 xs o1 (by omega))
                have hlen : (ys.map (shT (a.size + 1))).length = ys.length := List.length_map _
                generalize ys.map (shT (a.size + 1)) = ys' at O2 O3 hlen
                clear o1 o2 o3 hwr hbw z1 z2 z3
                go_wp2_with fail
                refine HC.out.mono ?_
                rintro e w5 ⟨v5, rfl, h5, hb5⟩
                obtain ⟨v6, w6, hrun, h6, hb6⟩ := append_run h5 (own_below O2.out hb5) hb5.size (by omega)
                have HE := Equal_ev (xs ++ ys') (by rw [List.length_append]; omega)
                obtain ⟨k, hk⟩ := HE.at_
                obtain ⟨A6, c6, rfl, hc6, r6⟩ := hold_reads h6
                have o36 : TokRow w6 w2.heap.size v3 (xs ++ ys') := own_below O3.out (hb5.trans hb6)
                obtain ⟨A3, c3, rfl, hc3, r3⟩ := hold_reads (.inr o36)
                have hE := token_Token_13.calls k A3 c3 ((xs ++ ys').map s36) A6 c6 ((xs ++ ys').map s36) true w6 (by rw [List.length_map]; exact r3) (by rw [List.length_map]; exact hc3) (by rw [List.length_map]; exact r6) (by rw [List.length_map]; exact hc6) hk
                rw [List.length_map] at hE
                have HEq := Lib.hid hE
                have Hrun := Lib.hid hrun
                have hb56 := hb5.trans hb6
                have Hb56 := Lib.hid hb56
                clear hE hrun h5 h6 r6 r3 o36 hk HE hb5 hb6 hb56 O2 O3 hlen
                generalize (xs ++ ys').length = nn at HEq Hrun hc3 hc6
                go_wp2_with (first
                  | (at_builtin; refine wpList_append_run rfl _ _ 27 rfl _ _ rfl rfl _ _ Hrun.out ?_)
                  | (go_at_call 13; refine HEq.out.mono ?_; rintro e w7 ⟨rfl, ⟨nd, rfl⟩⟩)
                  | (go_at_call 7; refine (HA.out _).mono ?_; rintro e w8 ⟨rfl, hb8⟩))
                go_ret
                have y1 := Hb56.out.size
                have y2 := Hbw.out.size
                have y3 : (w6.drewN nd).heap.size = w6.heap.size := rfl
                exact ⟨rfl, ((Hbw.out.trans (Hb56.out.mono (by omega))).trans (below_drewN (Below.refl _ _) nd)).trans (hb8.mono (by omega))⟩
        · rw [hp.2 he2] at HS3
          simp only at HS3
          rw [show ((q2 + a.size + 1 : Nat) : Int) = (q2 : Int) + (a.size : Int) + 1 by omega] at HS3
          have g2 : (e2 != 0) = true := by simpa using he2
          clear h1 h2 hp b1 b2 b3 b4 b5 d1 d2 d4 d5 hx hx' hS hz hl20 he2
          go_enter Try.func4, Try.ntmps4
          go_wp2_with fail
          refine (HF.out _ Hr.out).mono ?_
          rintro e w' ⟨rfl, rfl⟩
          go_wp2_with fail
          refine (HS1.out _ Hr.out).mono ?_
          rintro e3 w1 ⟨v1, rfl, ho1, hb1⟩
          have Hr1 := Lib.hid (Kd.C_below Hr.out hb1)
          clear ho1
          go_wp2_with fail
          refine (HS2.out _ Hr1.out).mono ?_
          rintro e4 w2 ⟨v2, rfl, ho2, hb2⟩
          have Hr2 := Lib.hid (Kd.C_below Hr1.out hb2)
          clear ho2
          go_wp2_with fail
          refine (HS3.out _ Hr2.out).mono ?_
          rintro e5 w3 ⟨v3, rfl, ho3, hb3⟩
          clear ho3
          go_wp2_with fail
          refine (HA.out _).mono ?_
          rintro e w4 ⟨rfl, hb4⟩
          go_wp2
          go_ret
          have z1 := hb1.size
          have z2 := hb2.size
          have z3 := hb3.size
          exact ⟨rfl, ((hb1.trans (hb2.mono (by omega))).trans (hb3.mono (by omega))).trans (hb4.mono (by omega))⟩
      · have g1 : (e1 != 0) = true := by simpa using he1
        clear h1 h2 b1 b2 b3 b4 b5 d1 d2 d3 d4 d5 hx hx' hS hz ha4 hl20 hb4 he1
        go_enter Try.func4, Try.ntmps4
        go_wp2_with fail
        refine (HF.out _ Hr.out).mono ?_
        rintro e w' ⟨rfl, rfl⟩
        go_wp2_with fail
        refine (HS1.out _ Hr.out).mono ?_
        rintro e3 w1 ⟨v, rfl, ho, hb1⟩
        go_wp2_with fail
        refine (HA.out _).mono ?_
        rintro e w2 ⟨rfl, hb⟩
        go_wp2
        go_ret
        exact ⟨rfl, hb1.trans (hb.mono (by have := hb1.size; omega))⟩
end Go.Proofs.Ytmkfeanggmjhmaa.Y
