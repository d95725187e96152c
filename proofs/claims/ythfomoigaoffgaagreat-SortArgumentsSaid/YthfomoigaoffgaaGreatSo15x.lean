/- Walks of the laws of sort: fewSorts, Few, awake. -/
import Derived.Test.YthfomoigaoffgaaGreatSo12
namespace Go.Proofs.YthfomoigaoffgaaGreat.So
open Go Go.RowKit Go.Shelf Go.Sort Go.Proofs.YthfomoigaoffgaaGreat.K Go.Proofs.YthfomoigaoffgaaGreat.G Go.Proofs.YthfomoigaoffgaaGreat.Ix Go.Proofs.YthfomoigaoffgaaGreat.O
set_option linter.unusedSimpArgs false
set_option linter.unusedVariables false

def fewS (ss : List (List ByteArray)) : Bool := !(ss.any fun s => decide (25 < s.length))
def fewCl (c : Cl) : Bool := decide (c.2.length ≤ 25)
def fewAr (x : Ar) : Bool := decide (x.2.2.length ≤ 12) && fewS x.2.2
def fewB (T : Thy) : Bool := (decide (T.cls.length ≤ 14) && (decide (T.tys.length ≤ 16) && decide (T.ars.length ≤ 40))) && (T.cls.all fewCl && T.ars.all fewAr)
theorem fewB_sups {T : Thy} (h : fewB T = true) : (allSups T.cls).length ≤ 100000000 := by
  simp only [fewB, Bool.and_eq_true, decide_eq_true_eq] at h
  have h1 := h.1.1
  have h2 : ∀ (l : List Cl), l.all fewCl = true → (allSups l).length ≤ l.length * 25 := by
    intro l
    induction l with
    | nil => intro _; simp [allSups]
    | cons c l ih =>
      intro hl
      rw [List.all_cons, Bool.and_eq_true] at hl
      have := ih hl.2
      have hc : c.2.length ≤ 25 := by simpa [fewCl] using hl.1
      simp only [allSups, List.flatMap_cons, List.length_append, List.length_cons] at this ⊢
      omega
  have := h2 _ h.2.1
  omega
theorem fewS_mem {ss : List (List ByteArray)} (h : fewS ss = true) {s : List ByteArray} (hs : s ∈ ss) : s.length ≤ 25 := by
  have h' : (ss.any fun s => decide (25 < s.length)) = false := by unfold fewS at h; revert h; cases (ss.any fun s => decide (25 < s.length)) <;> simp
  have := (List.any_eq_false.1 h') s hs
  simp at this
  exact this

theorem f1_calls (S : Nat → Prop) (W : World) (x : List ByteArray) (cs : List Value) (hK : (slice str).K S W x cs) :
    Calls Tryz.prog 16 #[oneV cs] W fun e W' => e = .returned (.bool (decide (25 < x.length))) ∧ Below W.heap.size W W' := by
  obtain ⟨A, c, rfl, hl, hC⟩ := hK
  have hm : x.length ≤ 9223372036854775807 := hC.len
  unfold oneV
  by_cases h : 25 < x.length
  · have g : (25 : Int) < (x.length : Int) := by omega
    rw [decide_eq_true h]
    go_enter Tryz.func16, Tryz.ntmps16
    go_wp2
    go_ret
    exact ⟨by simp [g, h], Below.refl _ _⟩
  · have g : ¬ (25 : Int) < (x.length : Int) := by omega
    rw [decide_eq_false h]
    go_enter Tryz.func16, Tryz.ntmps16
    go_wp2
    go_ret
    exact ⟨by simp [g, h], Below.refl _ _⟩
theorem fewS_calls (S : Nat → Prop) (A : Option Addr) (c : Nat) (ss : List (List ByteArray)) (w : World) (hC : C (slice str) S w A ss) (hca : ss.length ≤ c) :
    Calls Tryz.prog 5 #[.slice A ss.length c] w fun e w' => e = .returned (.bool (fewS ss)) ∧ Below w.heap.size w w' := by
  have HC := Lib.hid (ContainsFunc_lstring (slice str) S rfl (fun s => decide (25 < s.length)) 16 #[] (enters_of Tryz.func16 (by kernel_rfl) rfl) A c ss w
    (fun W' x cs hx hb hK => f1_calls S W' x cs hK) hC hca)
  unfold fewS
  clear hC
  generalize (ss.any fun s => decide (25 < s.length)) = R at HC ⊢
  go_enter Tryz.func5, Tryz.ntmps5
  go_wp2_with (go_at_call 15; refine HC.out.mono ?_; rintro e w' ⟨rfl, hb⟩)
  go_ret
  exact ⟨rfl, hb⟩

set_option maxRecDepth 100000 in
set_option maxHeartbeats 4000000 in
theorem few_calls (S : Nat → Prop) (r : Raw) (T : Thy) (w : World) (hT : ThyR S w r T) :
    Calls Tryz.prog 4 #[thyV r T] w fun e w' => e = .returned (.bool (fewB T)) ∧ Below w.heap.size w w' := by
  have HC := Lib.hid hT.cls
  have HAR := Lib.hid hT.ars
  have HF := Lib.hid (fun A c ss w hC hca => fewS_calls S A c ss w hC hca)
  have l1 : T.cls.length ≤ 9223372036854775807 := hT.cls.len
  have l2 : T.tys.length ≤ 9223372036854775807 := hT.tys.len
  have l3 : T.ars.length ≤ 9223372036854775807 := hT.ars.len
  clear hT
  generalize hF : fewB T = F
  unfold fewB at hF
  unfold thyV thyC
  generalize r.a1 = A1 at HC ⊢
  generalize r.a3 = A3 at HAR ⊢
  by_cases h1 : T.cls.length ≤ 14
  · have g1 : ¬ (14 : Int) < (T.cls.length : Int) := by omega
    by_cases h2 : T.tys.length ≤ 16
    · have g2 : ¬ (16 : Int) < (T.tys.length : Int) := by omega
      by_cases h3 : T.ars.length ≤ 40
      · have g3 : ¬ (40 : Int) < (T.ars.length : Int) := by omega
        rw [decide_eq_true h1, decide_eq_true h2, decide_eq_true h3, Bool.true_and, Bool.true_and, Bool.true_and] at hF
        have HE := Lib.hid hF
        clear hF
        go_enter Tryz.func4, Tryz.ntmps4
        go_wp2
        go_loopg [26] T.cls.length (fun gg v wr => ∃ k : Nat, v = .int .i64 k ∧ k ≤ T.cls.length ∧ T.cls.length - k ≤ gg ∧ Hid (((T.cls.drop k).all fewCl && T.ars.all fewAr) = F) ∧ Hid (Below (w.heap.size + 1) (w.alloc (.cells #[.string r.nm, .slice A1 T.cls.length r.c1, .slice r.a2 T.tys.length r.c2, .slice A3 T.ars.length r.c3, .slice r.a4 r.n4 r.c4, .slice r.a5 r.n5 r.c5, .slice r.a6 r.n6 r.c6] 29)) wr))
        case atStart => exact ⟨0, rfl, by omega, by omega, by simpa using HE, Lib.hid (Below.refl _ _)⟩
        case round =>
          clear HE
          obtain ⟨k, rfl, hk, hg, HE, HB⟩ := hrel
          have HB0 : Hid (Below w.heap.size w wr) := Lib.hid (((Below.refl _ _).alloc (Nat.le_refl _) _).trans (HB.out.mono (by omega)))
          by_cases hlt : k < T.cls.length
          · have hltz : (k : Int) < (T.cls.length : Int) := by omega
            have Hlt := Lib.hid hlt
            have hE := HE.out
            rw [List.drop_eq_getElem_cons hlt, List.all_cons] at hE
            obtain ⟨b, o, cs, rfl, _, _, hKc, hcc⟩ := (HC.out.below HB0.out).at_ k hlt
            obtain ⟨As, cp, rfl, hlc, hCs⟩ := kCl_open hKc
            have hc0 := hcc 0 _ rfl
            have hc1 := hcc 1 _ rfl
            have hksz : kCl.sz = 2 := rfl
            rw [hksz] at hc0 hc1
            rw [Nat.add_zero] at hc0
            have hclm : (T.cls[k]'hlt).2.length ≤ 9223372036854775807 := hCs.len
            have hfc : fewCl (T.cls[k]'hlt) = decide ((T.cls[k]'hlt).2.length ≤ 25) := rfl
            generalize T.cls[k]'hlt = cl at hE hc0 hc1 hlc hclm hfc
            rw [hfc] at hE
            clear hKc hcc hCs hksz HE hfc
            by_cases h25 : cl.2.length ≤ 25
            · have g25 : ¬ (25 : Int) < (cl.2.length : Int) := by omega
              rw [decide_eq_true h25, Bool.true_and] at hE
              have HE := Lib.hid hE
              clear hE
              go_wp2
              go_roundg (T.cls.length - (k + 1))
              case measure => omega
              case rel => exact ⟨k + 1, by go_num, Hlt.out, Nat.le_refl _, HE, Lib.hid (HB.out.alloc (by have := HB.out.size; simp at this; omega) _)⟩
            · have g25 : (25 : Int) < (cl.2.length : Int) := by omega
              rw [decide_eq_false h25, Bool.false_and, Bool.false_and] at hE
              subst hE
              go_wp2
              go_ret
              exact ⟨rfl, HB0.out.alloc HB0.out.size _⟩
          · have hltz : ¬ (k : Int) < (T.cls.length : Int) := by omega
            have hE := HE.out
            rw [List.drop_eq_nil_of_le (by omega), List.all_nil, Bool.true_and] at hE
            have HE := Lib.hid hE
            have h3c : wr.cell? ⟨w.heap.size, 3, none⟩ = some (.slice A3 T.ars.length r.c3) := (HB.out.cell (p := ⟨w.heap.size, 3, none⟩) (by show w.heap.size < w.heap.size + 1; omega)).trans (cells_at _ _ _ _ 3 rfl)
            have HB2 := HB
            have HB02 := HB0
            clear hE
            go_wp2
            go_loopg [38] T.ars.length (fun gg v wr2 => ∃ k : Nat, v = .int .i64 k ∧ k ≤ T.ars.length ∧ T.ars.length - k ≤ gg ∧ Hid ((T.ars.drop k).all fewAr = F) ∧ Hid (Below wr.heap.size wr wr2))
            case atStart => exact ⟨0, rfl, by omega, by omega, by simpa using HE, Lib.hid (Below.refl _ _)⟩
            case round =>
              clear HE
              obtain ⟨k, rfl, hk, hg, HE, HX⟩ := hrel
              have HB0 : Hid (Below w.heap.size w wr) := Lib.hid (HB02.out.trans (HX.out.mono HB02.out.size))
              by_cases hlt : k < T.ars.length
              · have hltz : (k : Int) < (T.ars.length : Int) := by omega
                have Hlt := Lib.hid hlt
                have hE := HE.out
                rw [List.drop_eq_getElem_cons hlt, List.all_cons] at hE
                obtain ⟨b, o, cs, rfl, _, _, hKc, hcc⟩ := (HAR.out.below HB0.out).at_ k hlt
                obtain ⟨As, cp, rfl, hlc, hCs⟩ := kAr_open hKc
                have hc0 := hcc 0 _ rfl
                have hc1 := hcc 1 _ rfl
                have hc2 := hcc 2 _ rfl
                have hksz : kAr.sz = 3 := rfl
                rw [hksz] at hc0 hc1 hc2
                rw [Nat.add_zero] at hc0
                have hclm : (T.ars[k]'hlt).2.2.length ≤ 9223372036854775807 := hCs.len
                have hfc : fewAr (T.ars[k]'hlt) = (decide ((T.ars[k]'hlt).2.2.length ≤ 12) && fewS (T.ars[k]'hlt).2.2) := rfl
                have HFS := Lib.hid (fun W (hb : Below wr.heap.size wr W) => HF.out As cp (T.ars[k]'hlt).2.2 W (hCs.below hb) hlc)
                generalize T.ars[k]'hlt = ar at hE hc0 hc1 hc2 hlc hclm hfc HFS
                rw [hfc] at hE
                clear hKc hcc hCs hksz HE hfc
                by_cases h12 : ar.2.2.length ≤ 12
                · have g12 : ¬ (12 : Int) < (ar.2.2.length : Int) := by omega
                  rw [decide_eq_true h12, Bool.true_and] at hE
                  generalize fewS ar.2.2 = R at hE HFS
                  cases R with
                  | true =>
                    rw [Bool.true_and] at hE
                    have HE := Lib.hid hE
                    clear hE
                    go_wp2_with fail
                    refine (HFS.out _ ((Below.refl _ _).alloc (Nat.le_refl _) _)).mono ?_
                    rintro e w3 ⟨rfl, hb3⟩
                    have HB3 := Lib.hid (HX.out.trans (((Below.refl _ _).alloc (Nat.le_refl _) _).trans (hb3.mono (by simp)) |>.mono HX.out.size))
                    clear hb3
                    go_wp2
                    go_roundg (T.ars.length - (k + 1))
                    case measure => omega
                    case rel => exact ⟨k + 1, by go_num, Hlt.out, Nat.le_refl _, HE, HB3⟩
                  | false =>
                    rw [Bool.false_and] at hE
                    subst hE
                    go_wp2_with fail
                    refine (HFS.out _ ((Below.refl _ _).alloc (Nat.le_refl _) _)).mono ?_
                    rintro e w3 ⟨rfl, hb3⟩
                    have HB3 := Lib.hid (HB0.out.trans (((Below.refl _ _).alloc (Nat.le_refl _) _).trans (hb3.mono (by simp)) |>.mono HB0.out.size))
                    clear hb3
                    go_wp2
                    go_ret
                    exact ⟨rfl, HB3.out⟩
                · have g12 : (12 : Int) < (ar.2.2.length : Int) := by omega
                  rw [decide_eq_false h12, Bool.false_and, Bool.false_and] at hE
                  subst hE
                  go_wp2
                  go_ret
                  exact ⟨rfl, HB0.out.alloc HB0.out.size _⟩
              · have hltz : ¬ (k : Int) < (T.ars.length : Int) := by omega
                have hE := HE.out
                rw [List.drop_eq_nil_of_le (by omega), List.all_nil] at hE
                subst hE
                go_wp2
                go_ret
                exact ⟨rfl, HB0.out⟩
      · have g3 : (40 : Int) < (T.ars.length : Int) := by omega
        rw [decide_eq_false h3, Bool.and_false, Bool.and_false, Bool.false_and] at hF
        subst hF
        go_enter Tryz.func4, Tryz.ntmps4
        go_wp2
        go_ret
        exact ⟨rfl, (Below.refl _ _).alloc (Nat.le_refl _) _⟩
    · have g2 : (16 : Int) < (T.tys.length : Int) := by omega
      rw [decide_eq_false h2, Bool.false_and, Bool.and_false, Bool.false_and] at hF
      subst hF
      go_enter Tryz.func4, Tryz.ntmps4
      go_wp2
      go_ret
      exact ⟨rfl, (Below.refl _ _).alloc (Nat.le_refl _) _⟩
  · have g1 : (14 : Int) < (T.cls.length : Int) := by omega
    rw [decide_eq_false h1, Bool.false_and, Bool.false_and] at hF
    subst hF
    go_enter Tryz.func4, Tryz.ntmps4
    go_wp2
    go_ret
    exact ⟨rfl, (Below.refl _ _).alloc (Nat.le_refl _) _⟩
end Go.Proofs.YthfomoigaoffgaaGreat.So
namespace Go.Proofs.YthfomoigaoffgaaGreat.G
open Go Go.RowKit Go.Proofs.YthfomoigaoffgaaGreat.K
/-! ### a row of elements that is laid out in one block -/
def AllK {α : Type} (d : Rd α) (S : Nat → Prop) (w : World) : List α → List (List Value) → Prop
  | [], [] => True
  | x :: xs, c :: cs => d.K S w x c ∧ AllK d S w xs cs
  | _, _ => False
theorem flat_at {α : Type} {d : Rd α} {S : Nat → Prop} {w : World} : ∀ {xs : List α} {css : List (List Value)}, AllK d S w xs css → ∀ j x, xs[j]? = some x → ∃ cs, d.K S w x cs ∧ ∀ i u, cs[i]? = some u → css.flatten[j * d.sz + i]? = some u
  | [], _, _ => fun j x hj => by simp at hj
  | _ :: _, [], h => h.elim
  | x0 :: xs, c0 :: css, ⟨h0, hr⟩ => fun j x hj => by
    have hl := d.len h0
    cases j with
    | zero =>
      cases hj
      exact ⟨c0, h0, fun i u hu => by
        rw [List.flatten_cons, Nat.zero_mul, Nat.zero_add, List.getElem?_append_left (List.getElem?_eq_some_iff.1 hu).1]
        exact hu⟩
    | succ j =>
      obtain ⟨cs, hk, hc⟩ := flat_at hr j x (by simpa using hj)
      exact ⟨cs, hk, fun i u hu => by
        rw [List.flatten_cons, List.getElem?_append_right (by rw [hl, Nat.add_mul]; omega), hl, show (j + 1) * d.sz + i - d.sz = j * d.sz + i by rw [Nat.add_mul]; omega]
        exact hc i u hu⟩
theorem C.lit {α : Type} {d : Rd α} {S : Nat → Prop} {w : World} {b : Nat} {ty : TypeId} {fz : Nat × Nat} {xs : List α} (css : List (List Value)) (h : AllK d S w xs css) (hb : w.heap[b]? = some (.cells css.flatten.toArray ty fz)) (hS : S b) (hl : xs.length ≤ maxLen) : C d S w (some ⟨b, 0, none⟩) xs :=
  ⟨hl, fun _ => ⟨b, 0, rfl, hS, (Array.getElem?_eq_some_iff.1 hb).1, fun j x hj => by
    obtain ⟨cs, hk, hc⟩ := flat_at h j x hj
    exact ⟨cs, hk, fun i u hu => by
      have := hc i u hu
      simp [World.cell?, hb, this]⟩⟩⟩
end Go.Proofs.YthfomoigaoffgaaGreat.G
namespace Go.Proofs.YthfomoigaoffgaaGreat.So
open Go Go.RowKit Go.Shelf Go.Sort Go.Proofs.YthfomoigaoffgaaGreat.K Go.Proofs.YthfomoigaoffgaaGreat.G Go.Proofs.YthfomoigaoffgaaGreat.Ix Go.Proofs.YthfomoigaoffgaaGreat.O
set_option linter.unusedSimpArgs false
set_option linter.unusedVariables false

theorem str_cells {S : Nat → Prop} {w : World} {b o : Nat} {l : List ByteArray} (h : C str S w (some ⟨b, o, none⟩) l) : ∀ j, j < l.length → w.cell? ⟨b, o + j, none⟩ = some (.string (l.getD j ByteArray.empty)) := fun j hj => by
  obtain ⟨b', o', e, _, _, hc⟩ := str_at h j hj
  simp only [Option.some.injEq, Addr.mk.injEq, and_true] at e
  obtain ⟨rfl, rfl⟩ := e
  rw [hc]
  simp [List.getD_eq_getElem?_getD, List.getElem?_eq_getElem hj]
theorem equal_calls (S S' : Nat → Prop) (A1 A2 : Option Addr) (c1 c2 : Nat) (xs ys : List ByteArray) (w : World) (hx : C str S w A1 xs) (hy : C str S' w A2 ys) :
    Calls Tryz.prog 11 #[.slice A1 xs.length c1, .slice A2 ys.length c2] w fun e w' => e = .returned (.bool (decide (xs = ys))) ∧ Below w.heap.size w w' := by
  have lx : xs.length ≤ 9223372036854775807 := hx.len
  have ly : ys.length ≤ 9223372036854775807 := hy.len
  by_cases hx0 : xs = []
  · subst hx0
    refine (Tryz.slices_Equal_string_empty A1 A2 c1 ys.length c2 w ly).mono ?_
    rintro e w' ⟨rfl, rfl⟩
    exact ⟨by
      have : decide (ys.length = 0) = decide (([] : List ByteArray) = ys) := by cases ys <;> simp
      rw [this], Below.refl _ _⟩
  · by_cases hn : xs.length = ys.length
    · have hy0 : ys ≠ [] := fun e => hx0 (List.eq_nil_of_length_eq_zero (by rw [hn, e]; rfl))
      obtain ⟨b1, o1, rfl, _⟩ := hx.2 hx0
      obtain ⟨b2, o2, rfl, _⟩ := hy.2 hy0
      refine (Tryz.slices_Equal_string b1 o1 xs.length c1 b2 o2 ys.length c2 xs ys w (Nat.le_refl _) (Nat.le_refl _) lx ly (str_cells hx) (str_cells hy)).mono ?_
      rintro e w' ⟨rfl, q, rfl⟩
      exact ⟨by rw [List.take_length, List.take_length], below_drewN (Below.refl _ w) q⟩
    · refine (Tryz.slices_Equal_string_lens A1 A2 xs.length c1 ys.length c2 w hn).mono ?_
      rintro e w' ⟨rfl, rfl⟩
      exact ⟨by rw [decide_eq_false (fun e => hn (by rw [e]))], Below.refl _ _⟩
theorem mine_of_own {w : World} {base n : Nat} {v : Value} {l : List ByteArray} (h : w.ownsRow base 9 1 v n (l.map Value.string)) : Mine str base (fun _ => False) w v l := by
  have hn := h.1
  rw [List.length_map, Nat.mul_one] at hn
  subst hn
  have h' := h
  rcases h.2 with ⟨rfl, h0⟩ | ⟨g, cap, cur, rfl, hg, hh, hc, hcm, hcs, _⟩
  · have : l = [] := List.eq_nil_of_length_eq_zero h0
    subst this
    exact Mine.nil ..
  · have e1 : str.sz = 1 := rfl
    refine ⟨_, cap, rfl, hc, hcm, .inr ⟨g, 0, rfl, hg, (Array.getElem?_eq_some_iff.1 hh).1, fun j hj => ?_, scalar_cells fun j x hj => ?_⟩⟩
    · rw [e1] at hj
      refine ⟨?_, by simp [World.frozen?, hh]⟩
      have : w.cell? ⟨g, 0 + j, none⟩ = cur[j]? := by simp [World.cell?, hh]
      rw [this, Array.getElem?_eq_getElem (by omega)]
      rfl
    · have hj' := (List.getElem?_eq_some_iff.1 hj).1
      rw [Nat.zero_add, h'.cellAt j (by omega), List.getElem?_map, hj]
      rfl
theorem clone_any {S : Nat → Prop} {A : Option Addr} {c : Nat} {l : List ByteArray} {w : World} (h : C str S w A l) (hl : l.length ≤ 1000000) :
    Calls Tryz.prog 61 #[.slice A l.length c] w fun e w' => ∃ A' n' c', e = .returned (.slice A' n' c') ∧ Mine str w.heap.size (fun _ => False) w' (.slice A' n' c') l ∧ Below w.heap.size w w' := by
  by_cases hl0 : l = []
  · subst hl0
    cases A with
    | none =>
      refine (Tryz.slices_Clone_string_nil 0 c w).mono ?_
      rintro e w' ⟨rfl, rfl⟩
      exact ⟨none, 0, 0, rfl, Mine.nil .., Below.refl _ _⟩
    | some a =>
      refine (Tryz.slices_Clone_string_zero a c w).mono ?_
      rintro e w' ⟨v', rfl, ho, _, hb⟩
      have hm := mine_of_own (l := []) ho
      obtain ⟨A', c', rfl, _⟩ := hm.form
      exact ⟨A', _, c', rfl, hm, hb⟩
  · obtain ⟨b, o, rfl, _⟩ := h.2 hl0
    refine (Tryz.slices_Clone_string b o l.length c l w (Nat.le_refl _) (by omega) (str_cells h)).mono ?_
    rintro e w' ⟨v', rfl, ho, _, hb⟩
    rw [List.take_length] at ho
    have hm := mine_of_own ho
    obtain ⟨A', c', rfl, _⟩ := hm.form
    exact ⟨A', _, c', rfl, hm, hb⟩
def sA : ByteArray := ⟨#[97]⟩
def sB : ByteArray := ⟨#[98]⟩
def sC : ByteArray := ⟨#[99]⟩
def wkT : Thy := ⟨[(sA, []), (sB, []), (sC, [sA, sB])], [], []⟩
theorem wk_norm : normB wkT.cls [sB, sC, sA] = ([sC], 0) := by decide +kernel
def wkR (b1 : Nat) : Raw := ⟨⟨#[]⟩, some ⟨b1, 0, none⟩, 3, none, 0, none, 0, none, 0, 0, none, 0, 0, none, 0, 0⟩
theorem wk_thy (b0 b1 : Nat) (W : World) (h0 : W.heap[b0]? = some (.cells #[.string ⟨#[97]⟩, .string ⟨#[98]⟩] 9 (0, 0)))
    (h1 : W.heap[b1]? = some (.cells #[.string ⟨#[97]⟩, .slice none 0 0, .string ⟨#[98]⟩, .slice none 0 0, .string ⟨#[99]⟩, .slice (some ⟨b0, 0, none⟩) 2 2] 48 (0, 0))) : ThyR (fun _ => True) W (wkR b1) wkT := by
  have hs : C str (fun _ => True) W (some ⟨b0, 0, none⟩) [sA, sB] := C.lit [[.string sA], [.string sB]] ⟨rfl, rfl, trivial⟩ h0 trivial (by decide)
  have hn : C str (fun _ => True) W none [] := C.nil ..
  have hc : C kCl (fun _ => True) W (some ⟨b1, 0, none⟩) wkT.cls := C.lit [[.string sA, .slice none 0 0], [.string sB, .slice none 0 0], [.string sC, .slice (some ⟨b0, 0, none⟩) 2 2]]
    ⟨⟨[.string sA], [.slice none 0 0], rfl, rfl, none, 0, rfl, Nat.le_refl _, hn⟩, ⟨[.string sB], [.slice none 0 0], rfl, rfl, none, 0, rfl, Nat.le_refl _, hn⟩, ⟨[.string sC], [.slice (some ⟨b0, 0, none⟩) 2 2], rfl, rfl, _, 2, rfl, Nat.le_refl _, hs⟩, trivial⟩ h1 trivial (by decide)
  exact ⟨hc, Nat.le_refl _, C.nil .., Nat.le_refl _, C.nil .., Nat.le_refl _, by decide +kernel⟩
theorem wk_calls (b0 b1 b3 : Nat) (W : World) (h0 : W.heap[b0]? = some (.cells #[.string ⟨#[97]⟩, .string ⟨#[98]⟩] 9 (0, 0)))
    (h1 : W.heap[b1]? = some (.cells #[.string ⟨#[97]⟩, .slice none 0 0, .string ⟨#[98]⟩, .slice none 0 0, .string ⟨#[99]⟩, .slice (some ⟨b0, 0, none⟩) 2 2] 48 (0, 0)))
    (h3 : W.heap[b3]? = some (.cells #[.string ⟨#[98]⟩, .string ⟨#[99]⟩, .string ⟨#[97]⟩] 9 (0, 0))) :
    Calls Tryz.prog 17 #[.agg #[.string ⟨#[]⟩, .slice (some ⟨b1, 0, none⟩) 3 3, .slice none 0 0, .slice none 0 0, .slice none 0 0, .slice none 0 0, .slice none 0 0], .slice (some ⟨b3, 0, none⟩) 3 3] W fun e w' =>
      ∃ A n c, e = .returned (.tuple #[.slice A n c, .int .i64 0]) ∧ C str (fun _ => True) w' A [sC] ∧ n = 1 ∧ Below W.heap.size W w' := by
  have hs : C str (fun _ => True) W (some ⟨b3, 0, none⟩) [sB, sC, sA] := C.lit [[.string sB], [.string sC], [.string sA]] ⟨rfl, rfl, rfl, trivial⟩ h3 trivial (by decide)
  have := normal_calls (fun _ => True) (fun _ => True) (wkR b1) wkT (some ⟨b3, 0, none⟩) 3 [sB, sC, sA] W (wk_thy b0 b1 W h0 h1) hs (Nat.le_refl _) (by decide) (by decide +kernel) (by decide)
  rw [wk_norm] at this
  refine this.mono ?_
  rintro e w' ⟨v, rfl, hm, hb⟩
  obtain ⟨A, c, rfl, _⟩ := hm.form
  exact ⟨A, _, c, rfl, hm.read.2.2.mono (fun _ _ => trivial), rfl, hb⟩
theorem wk_eq (A1 A2 : Option Addr) (c1 c2 : Nat) (w : World) (hx : C str (fun _ => True) w A1 [sC]) (hy : C str (fun _ => True) w A2 [sC]) :
    Calls Tryz.prog 11 #[.slice A1 1 c1, .slice A2 1 c2] w fun e w' => e = .returned (.bool true) ∧ Below w.heap.size w w' := equal_calls _ _ A1 A2 c1 c2 [sC] [sC] w hx hy
set_option maxRecDepth 100000 in
set_option maxHeartbeats 4000000 in
theorem awake_calls (w : World) : Calls Tryz.prog 7 #[] w fun e w' => e = .returned (.bool true) ∧ Below w.heap.size w w' := by
  have HI := Lib.hid (fun s w hs => IsName_calls s w hs)
  go_enter Tryz.func7, Tryz.ntmps7
  go_wp2_with fail
  refine (wk_calls w.heap.size (w.heap.size + 1) (w.heap.size + 1 + 1 + 1) _ ?_ ?_ ?_).mono ?_
  · exact (Below.heap_alloc _ _ _ (by simp <;> omega)).trans ((Below.heap_alloc _ _ _ (by simp <;> omega)).trans ((Below.heap_alloc _ _ _ (by simp)).trans (World.alloc_heap_new w _)))
  · refine (Below.heap_alloc _ _ _ (by simp)).trans ((Below.heap_alloc _ _ _ (by simp)).trans ?_)
    have := World.alloc_heap_new (w.alloc (Obj.cells #[Value.string { data := #[97] }, Value.string { data := #[98] }] 9)) (.cells #[.string ⟨#[97]⟩, .slice none 0 0, .string ⟨#[98]⟩, .slice none 0 0, .string ⟨#[99]⟩, .slice (some ⟨w.heap.size, 0, none⟩) 2 2] 48)
    rwa [World.size_alloc] at this
  · refine (congrArg (fun k => (World.heap _)[k]?) ?_).trans (World.alloc_heap_new _ _)
    simp
  rintro e w2 ⟨A, n, c, rfl, hC, rfl, hb⟩
  have HC := Lib.hid hC
  have HB := Lib.hid (((((Below.refl w.heap.size w).alloc (Nat.le_refl _) _).alloc (by simp) _).alloc (by simp; omega) _).alloc (by simp; omega) _ |>.trans (hb.mono (by simp; omega)))
  clear hC hb
  go_wp2_with fail
  refine (wk_eq _ _ _ _ _ (HC.out.below ((Below.refl _ _).alloc (Nat.le_refl _) _)) (C.lit [[.string sC]] ⟨rfl, trivial⟩ (World.alloc_heap_new w2 _) trivial (by decide))).mono ?_
  rintro e w3 ⟨rfl, hb3⟩
  have HB3 := Lib.hid (HB.out.trans (((Below.refl _ _).alloc (Nat.le_refl _) _).trans (hb3.mono (by simp)) |>.mono HB.out.size))
  clear hb3
  have HN1 := Lib.hid (HI.out ⟨#[120, 39, 49, 46, 121]⟩ w3 (by decide))
  rw [show nameB ⟨#[120, 39, 49, 46, 121]⟩ = true by decide +kernel] at HN1
  go_wp2_with fail
  refine HN1.out.mono ?_
  rintro e w4 ⟨rfl, hb4⟩
  have HB4 := Lib.hid (HB3.out.trans (hb4.mono HB3.out.size))
  clear hb4
  have HN2 := Lib.hid (HI.out ⟨#[49, 120]⟩ w4 (by decide))
  rw [show nameB ⟨#[49, 120]⟩ = false by decide +kernel] at HN2
  go_wp2_with fail
  refine HN2.out.mono ?_
  rintro e w5 ⟨rfl, hb5⟩
  have HB5 := Lib.hid (HB4.out.trans (hb5.mono HB4.out.size))
  clear hb5
  go_wp2
  go_ret
  exact ⟨rfl, HB5.out⟩
end Go.Proofs.YthfomoigaoffgaaGreat.So
namespace Go.Proofs.YthfomoigaoffgaaGreat.So
open Go Go.RowKit Go.Shelf Go.Sort Go.Proofs.YthfomoigaoffgaaGreat.K Go.Proofs.YthfomoigaoffgaaGreat.G Go.Proofs.YthfomoigaoffgaaGreat.Ix Go.Proofs.YthfomoigaoffgaaGreat.O
set_option linter.unusedSimpArgs false
set_option linter.unusedVariables false

abbrev Any : Nat → Prop := fun _ => True
/-- the state of a law: what was made lies behind, and the theory's copy lies in the first block -/
structure St (w : World) (r : Raw) (T : Thy) (W : World) : Prop where
  below : Below w.heap.size w W
  copy : W.heap[w.heap.size]? = some (.cells (thyC r T) 29 (0, 0))
theorem St.first (w : World) (r : Raw) (T : Thy) : St w r T (w.alloc (.cells (thyC r T) 29)) := ⟨(Below.refl _ _).alloc (Nat.le_refl _) _, World.alloc_heap_new w _⟩
theorem St.lt {w W : World} {r : Raw} {T : Thy} (h : St w r T W) : w.heap.size < W.heap.size := (Array.getElem?_eq_some_iff.1 h.copy).1
theorem St.step {w W W' : World} {r : Raw} {T : Thy} (h : St w r T W) (hb : Below W.heap.size W W') : St w r T W' := ⟨h.below.trans (hb.mono h.below.size), (hb.block _ h.lt).trans h.copy⟩
theorem St.stepC {w W W' : World} {r : Raw} {T : Thy} (h : St w r T W) {B : Nat} (hb : Below B W W') (hB : w.heap.size < B) (hs : B ≤ W.heap.size) : St w r T W' := ⟨h.below.trans (hb.mono (by omega)), (hb.block _ hB).trans h.copy⟩

section
variable {S : Nat → Prop} {r : Raw} {T : Thy}
theorem few2_calls {Sa Sb : Nat → Prop} {Aa Ab : Option Addr} {ca cb : Nat} {a b : List ByteArray} {W : World} (ha : C str Sa W Aa a) (hca : a.length ≤ ca) (hb : C str Sb W Ab b) (hcb : b.length ≤ cb) :
    Calls Tryz.prog 5 #[.slice (some ⟨W.heap.size, 0, none⟩) 2 2] (W.alloc (.cells #[.slice Aa a.length ca, .slice Ab b.length cb] 27)) fun e W' => e = .returned (.bool (fewS [a, b])) ∧ Below W.heap.size W W' := by
  have hbx : Below W.heap.size W (W.alloc (.cells #[.slice Aa a.length ca, .slice Ab b.length cb] 27)) := (Below.refl _ _).alloc (Nat.le_refl _) _
  have h : C (slice str) Any (W.alloc (.cells #[.slice Aa a.length ca, .slice Ab b.length cb] 27)) (some ⟨W.heap.size, 0, none⟩) [a, b] := C.lit [[.slice Aa a.length ca], [.slice Ab b.length cb]]
    ⟨⟨Aa, ca, rfl, hca, (ha.below hbx).mono (fun _ _ => trivial)⟩, ⟨Ab, cb, rfl, hcb, (hb.below hbx).mono (fun _ _ => trivial)⟩, trivial⟩ (World.alloc_heap_new W _) trivial (by simp [maxLen])
  refine (fewS_calls Any (some ⟨W.heap.size, 0, none⟩) 2 [a, b] _ h (Nat.le_refl _)).mono ?_
  rintro e W' ⟨rfl, hb'⟩
  exact ⟨rfl, hbx.trans (hb'.mono (by simp))⟩
theorem few3_calls {Sa Sb Sc : Nat → Prop} {Aa Ab Ac : Option Addr} {ca cb cc : Nat} {a b c : List ByteArray} {W : World} (ha : C str Sa W Aa a) (hca : a.length ≤ ca) (hb : C str Sb W Ab b) (hcb : b.length ≤ cb) (hc : C str Sc W Ac c) (hcc : c.length ≤ cc) :
    Calls Tryz.prog 5 #[.slice (some ⟨W.heap.size, 0, none⟩) 3 3] (W.alloc (.cells #[.slice Aa a.length ca, .slice Ab b.length cb, .slice Ac c.length cc] 27)) fun e W' => e = .returned (.bool (fewS [a, b, c])) ∧ Below W.heap.size W W' := by
  have hbx : Below W.heap.size W (W.alloc (.cells #[.slice Aa a.length ca, .slice Ab b.length cb, .slice Ac c.length cc] 27)) := (Below.refl _ _).alloc (Nat.le_refl _) _
  have h : C (slice str) Any (W.alloc (.cells #[.slice Aa a.length ca, .slice Ab b.length cb, .slice Ac c.length cc] 27)) (some ⟨W.heap.size, 0, none⟩) [a, b, c] := C.lit [[.slice Aa a.length ca], [.slice Ab b.length cb], [.slice Ac c.length cc]]
    ⟨⟨Aa, ca, rfl, hca, (ha.below hbx).mono (fun _ _ => trivial)⟩, ⟨Ab, cb, rfl, hcb, (hb.below hbx).mono (fun _ _ => trivial)⟩, ⟨Ac, cc, rfl, hcc, (hc.below hbx).mono (fun _ _ => trivial)⟩, trivial⟩ (World.alloc_heap_new W _) trivial (by simp [maxLen])
  refine (fewS_calls Any (some ⟨W.heap.size, 0, none⟩) 3 [a, b, c] _ h (Nat.le_refl _)).mono ?_
  rintro e W' ⟨rfl, hb'⟩
  exact ⟨rfl, hbx.trans (hb'.mono (by simp))⟩
/-- Normal, of a row that lies anywhere -/
theorem normal_any {Ss : Nat → Prop} {A : Option Addr} {n c : Nat} {s L : List ByteArray} {er : Int} {W : World} (hT : ThyR S W r T) (hC : C str Ss W A s) (hn : n = s.length) (hca : n ≤ c) (hl : s.length ≤ 25) (hss : ∀ x ∈ s, x.size ≤ maxLen) (hfew : (allSups T.cls).length ≤ 100000000) (hN : normB T.cls s = (L, er)) :
    Calls Tryz.prog 17 #[thyV r T, .slice A n c] W fun e W' => ∃ A' c', e = .returned (.tuple #[.slice A' L.length c', .int .i64 er]) ∧ C str Any W' A' L ∧ L.length ≤ c' ∧ Below W.heap.size W W' := by
  subst hn
  refine (normal_calls S Ss r T A c s W hT hC hca (by omega) hss hfew).mono ?_
  rintro e W' ⟨v, rfl, hm, hb⟩
  rw [hN] at hm ⊢
  obtain ⟨A', c', rfl, hl'⟩ := hm.form
  exact ⟨A', c', rfl, hm.read.2.2.mono (fun _ _ => trivial), hl', hb⟩
end
theorem equal_same {S S' : Nat → Prop} {A1 A2 : Option Addr} {c1 c2 : Nat} {xs : List ByteArray} {w : World} (hx : C str S w A1 xs) (hy : C str S' w A2 xs) :
    Calls Tryz.prog 11 #[.slice A1 xs.length c1, .slice A2 xs.length c2] w fun e w' => e = .returned (.bool true) ∧ Below w.heap.size w w' := by
  have := equal_calls S S' A1 A2 c1 c2 xs xs w hx hy
  rwa [decide_eq_true rfl] at this
theorem norm_small {cs : List Cl} {s L : List ByteArray} {er : Int} (h : normB cs s = (L, er)) (hs : ∀ x ∈ s, x.size ≤ maxLen) : (∀ x ∈ L, x.size ≤ maxLen) ∧ L.length ≤ s.length := by
  unfold normB at h
  split at h
  · cases h; exact ⟨fun x hx => absurd hx List.not_mem_nil, Nat.zero_le _⟩
  · split at h
    · cases h; exact ⟨fun x hx => absurd hx List.not_mem_nil, Nat.zero_le _⟩
    · split at h
      · cases h; exact ⟨fun x hx => hs x (least_sub hx), least_len⟩
      · cases h; exact ⟨fun x hx => absurd hx List.not_mem_nil, Nat.zero_le _⟩

end Go.Proofs.YthfomoigaoffgaaGreat.So
