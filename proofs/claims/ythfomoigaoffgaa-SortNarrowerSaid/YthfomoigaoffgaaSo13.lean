/- Walks of the laws of sort: fewSorts, Few, awake. -/
import Derived.Test.YthfomoigaoffgaaSo12
namespace Go.Proofs.Ythfomoigaoffgaa.So
open Go Go.RowKit Go.Shelf Go.Sort Go.Proofs.Ythfomoigaoffgaa.K Go.Proofs.Ythfomoigaoffgaa.G Go.Proofs.Ythfomoigaoffgaa.Ix Go.Proofs.Ythfomoigaoffgaa.O
set_option linter.unusedSimpArgs false
set_option linter.unusedVariables false

def fewS (ss : List (List ByteArray)) : Bool := !(ss.any fun s => decide (25 < s.length))
def fewCl (c : Cl) : Bool := decide (c.2.length ≤ 25)
def fewAr (x : Ar) : Bool := decide (x.2.2.length ≤ 12) && fewS x.2.2
def fewB (T : Thy) : Bool := (decide (T.cls.length ≤ 14) && (decide (T.tys.length ≤ 16) && decide (T.ars.length ≤ 40))) && (T.cls.all fewCl && T.ars.all fewAr)
theorem fewB_sups {T : Thy} (h : fewB T = true) : (allSups T.cls).length ≤ 100000000 := by
  simp only [fewB, Bool.and_eq_true, decide_eq_true_eq] at h
  have h1 := h.1.1
  have h2 : ∀ (l : List Cl), l.all fewCl = true → (allSups l).length ≤ l.length * 25 := by
    intro l
    induction l with
    | nil => intro _; simp [allSups]
    | cons c l ih =>
      intro hl
      rw [List.all_cons, Bool.and_eq_true] at hl
      have := ih hl.2
      have hc : c.2.length ≤ 25 := by simpa [fewCl] using hl.1
      simp only [allSups, List.flatMap_cons, List.length_append, List.length_cons] at this ⊢
      omega
  have := h2 _ h.2.1
  omega
theorem fewS_mem {ss : List (List ByteArray)} (h : fewS ss = true) {s : List ByteArray} (hs : s ∈ ss) : s.length ≤ 25 := by
  have h' : (ss.any fun s => decide (25 < s.length)) = false := by unfold fewS at h; revert h; cases (ss.any fun s => decide (25 < s.length)) <;> simp
  have := (List.any_eq_false.1 h') s hs
  simp at this
  exact this

theorem f1_calls (S : Nat → Prop) (W : World) (x : List ByteArray) (cs : List Value) (hK : (slice str).K S W x cs) :
    Calls Try.prog 29 #[oneV cs] W fun e W' => e = .returned (.bool (decide (25 < x.length))) ∧ Below W.heap.size W W' := by
  obtain ⟨A, c, rfl, hl, hC⟩ := hK
  have hm : x.length ≤ 9223372036854775807 := hC.len
  unfold oneV
  by_cases h : 25 < x.length
  · have g : (25 : Int) < (x.length : Int) := by omega
    rw [decide_eq_true h]
    go_enter Try.func29, Try.ntmps29
    go_wp2
    go_ret
    exact ⟨by simp [g, h], Below.refl _ _⟩
  · have g : ¬ (25 : Int) < (x.length : Int) := by omega
    rw [decide_eq_false h]
    go_enter Try.func29, Try.ntmps29
    go_wp2
    go_ret
    exact ⟨by simp [g, h], Below.refl _ _⟩
theorem fewS_calls (S : Nat → Prop) (A : Option Addr) (c : Nat) (ss : List (List ByteArray)) (w : World) (hC : C (slice str) S w A ss) (hca : ss.length ≤ c) :
    Calls Try.prog 9 #[.slice A ss.length c] w fun e w' => e = .returned (.bool (fewS ss)) ∧ Below w.heap.size w w' := by
  have HC := Lib.hid (ContainsFunc_lstring (slice str) S rfl (fun s => decide (25 < s.length)) 29 #[] (enters_of Try.func29 (by kernel_rfl) rfl) A c ss w
    (fun W' x cs hx hb hK => f1_calls S W' x cs hK) hC hca)
  unfold fewS
  clear hC
  generalize (ss.any fun s => decide (25 < s.length)) = R at HC ⊢
  go_enter Try.func9, Try.ntmps9
  go_wp2_with (go_at_call 28; refine HC.out.mono ?_; rintro e w' ⟨rfl, hb⟩)
  go_ret
  exact ⟨rfl, hb⟩

set_option maxRecDepth 100000 in
set_option maxHeartbeats 4000000 in
theorem few_calls (S : Nat → Prop) (r : Raw) (T : Thy) (w : World) (hT : ThyR S w r T) :
    Calls Try.prog 8 #[thyV r T] w fun e w' => e = .returned (.bool (fewB T)) ∧ Below w.heap.size w w' := by
  have HC := Lib.hid hT.cls
  have HAR := Lib.hid hT.ars
  have HF := Lib.hid (fun A c ss w hC hca => fewS_calls S A c ss w hC hca)
  have l1 : T.cls.length ≤ 9223372036854775807 := hT.cls.len
  have l2 : T.tys.length ≤ 9223372036854775807 := hT.tys.len
  have l3 : T.ars.length ≤ 9223372036854775807 := hT.ars.len
  clear hT
  generalize hF : fewB T = F
  unfold fewB at hF
  unfold thyV thyC
  generalize r.a1 = A1 at HC ⊢
  generalize r.a3 = A3 at HAR ⊢
  by_cases h1 : T.cls.length ≤ 14
  · have g1 : ¬ (14 : Int) < (T.cls.length : Int) := by omega
    by_cases h2 : T.tys.length ≤ 16
    · have g2 : ¬ (16 : Int) < (T.tys.length : Int) := by omega
      by_cases h3 : T.ars.length ≤ 40
      · have g3 : ¬ (40 : Int) < (T.ars.length : Int) := by omega
        rw [decide_eq_true h1, decide_eq_true h2, decide_eq_true h3, Bool.true_and, Bool.true_and, Bool.true_and] at hF
        have HE := Lib.hid hF
        clear hF
        go_enter Try.func8, Try.ntmps8
        go_wp2
        go_loopg [26] T.cls.length (fun gg v wr => ∃ k : Nat, v = .int .i64 k ∧ k ≤ T.cls.length ∧ T.cls.length - k ≤ gg ∧ Hid (((T.cls.drop k).all fewCl && T.ars.all fewAr) = F) ∧ Hid (Below (w.heap.size + 1) (w.alloc (.cells #[.string r.nm, .slice A1 T.cls.length r.c1, .slice r.a2 T.tys.length r.c2, .slice A3 T.ars.length r.c3, .slice r.a4 r.n4 r.c4, .slice r.a5 r.n5 r.c5, .slice r.a6 r.n6 r.c6] 29)) wr))
        case atStart => exact ⟨0, rfl, by omega, by omega, by simpa using HE, Lib.hid (Below.refl _ _)⟩
        case round =>
          clear HE
          obtain ⟨k, rfl, hk, hg, HE, HB⟩ := hrel
          have HB0 : Hid (Below w.heap.size w wr) := Lib.hid (((Below.refl _ _).alloc (Nat.le_refl _) _).trans (HB.out.mono (by omega)))
          by_cases hlt : k < T.cls.length
          · have hltz : (k : Int) < (T.cls.length : Int) := by omega
            have Hlt := Lib.hid hlt
            have hE := HE.out
            rw [List.drop_eq_getElem_cons hlt, List.all_cons] at hE
            obtain ⟨b, o, cs, rfl, _, _, hKc, hcc⟩ := (HC.out.below HB0.out).at_ k hlt
            obtain ⟨As, cp, rfl, hlc, hCs⟩ := kCl_open hKc
            have hc0 := hcc 0 _ rfl
            have hc1 := hcc 1 _ rfl
            have hksz : kCl.sz = 2 := rfl
            rw [hksz] at hc0 hc1
            rw [Nat.add_zero] at hc0
            have hclm : (T.cls[k]'hlt).2.length ≤ 9223372036854775807 := hCs.len
            have hfc : fewCl (T.cls[k]'hlt) = decide ((T.cls[k]'hlt).2.length ≤ 25) := rfl
            generalize T.cls[k]'hlt = cl at hE hc0 hc1 hlc hclm hfc
            rw [hfc] at hE
            clear hKc hcc hCs hksz HE hfc
            by_cases h25 : cl.2.length ≤ 25
            · have g25 : ¬ (25 : Int) < (cl.2.length : Int) := by omega
              rw [decide_eq_true h25, Bool.true_and] at hE
              have HE := Lib.hid hE
              clear hE
              go_wp2
              go_roundg (T.cls.length - (k + 1))
              case measure => omega
              case rel => exact ⟨k + 1, by go_num, Hlt.out, Nat.le_refl _, HE, Lib.hid (HB.out.alloc (by have := HB.out.size; simp at this; omega) _)⟩
            · have g25 : (25 : Int) < (cl.2.length : Int) := by omega
              rw [decide_eq_false h25, Bool.false_and, Bool.false_and] at hE
              subst hE
              go_wp2
              go_ret
              exact ⟨rfl, HB0.out.alloc HB0.out.size _⟩
          · have hltz : ¬ (k : Int) < (T.cls.length : Int) := by omega
            have hE := HE.out
            rw [List.drop_eq_nil_of_le (by omega), List.all_nil, Bool.true_and] at hE
            have HE := Lib.hid hE
            have h3c : wr.cell? ⟨w.heap.size, 3, none⟩ = some (.slice A3 T.ars.length r.c3) := (HB.out.cell (p := ⟨w.heap.size, 3, none⟩) (by show w.heap.size < w.heap.size + 1; omega)).trans (cells_at _ _ _ _ 3 rfl)
            have HB2 := HB
            have HB02 := HB0
            clear hE
            go_wp2
            go_loopg [38] T.ars.length (fun gg v wr2 => ∃ k : Nat, v = .int .i64 k ∧ k ≤ T.ars.length ∧ T.ars.length - k ≤ gg ∧ Hid ((T.ars.drop k).all fewAr = F) ∧ Hid (Below wr.heap.size wr wr2))
            case atStart => exact ⟨0, rfl, by omega, by omega, by simpa using HE, Lib.hid (Below.refl _ _)⟩
            case round =>
              clear HE
              obtain ⟨k, rfl, hk, hg, HE, HX⟩ := hrel
              have HB0 : Hid (Below w.heap.size w wr) := Lib.hid (HB02.out.trans (HX.out.mono HB02.out.size))
              by_cases hlt : k < T.ars.length
              · have hltz : (k : Int) < (T.ars.length : Int) := by omega
                have Hlt := Lib.hid hlt
                have hE := HE.out
                rw [List.drop_eq_getElem_cons hlt, List.all_cons] at hE
                obtain ⟨b, o, cs, rfl, _, _, hKc, hcc⟩ := (HAR.out.below HB0.out).at_ k hlt
                obtain ⟨As, cp, rfl, hlc, hCs⟩ := kAr_open hKc
                have hc0 := hcc 0 _ rfl
                have hc1 := hcc 1 _ rfl
                have hc2 := hcc 2 _ rfl
                have hksz : kAr.sz = 3 := rfl
                rw [hksz] at hc0 hc1 hc2
                rw [Nat.add_zero] at hc0
                have hclm : (T.ars[k]'hlt).2.2.length ≤ 9223372036854775807 := hCs.len
                have hfc : fewAr (T.ars[k]'hlt) = (decide ((T.ars[k]'hlt).2.2.length ≤ 12) && fewS (T.ars[k]'hlt).2.2) := rfl
                have HFS := Lib.hid (fun W (hb : Below wr.heap.size wr W) => HF.out As cp (T.ars[k]'hlt).2.2 W (hCs.below hb) hlc)
                generalize T.ars[k]'hlt = ar at hE hc0 hc1 hc2 hlc hclm hfc HFS
                rw [hfc] at hE
                clear hKc hcc hCs hksz HE hfc
                by_cases h12 : ar.2.2.length ≤ 12
                · have g12 : ¬ (12 : Int) < (ar.2.2.length : Int) := by omega
                  rw [decide_eq_true h12, Bool.true_and] at hE
                  generalize fewS ar.2.2 = R at hE HFS
                  cases R with
                  | true =>
                    rw [Bool.true_and] at hE
                    have HE := Lib.hid hE
                    clear hE
                    go_wp2_with fail
                    refine (HFS.out _ ((Below.refl _ _).alloc (Nat.le_refl _) _)).mono ?_
                    rintro e w3 ⟨rfl, hb3⟩
                    have HB3 := Lib.hid (HX.out.trans (((Below.refl _ _).alloc (Nat.le_refl _) _).trans (hb3.mono (by simp)) |>.mono HX.out.size))
                    clear hb3
                    go_wp2
                    go_roundg (T.ars.length - (k + 1))
                    case measure => omega
                    case rel => exact ⟨k + 1, by go_num, Hlt.out, Nat.le_refl _, HE, HB3⟩
                  | false =>
                    rw [Bool.false_and] at hE
                    subst hE
                    go_wp2_with fail
                    refine (HFS.out _ ((Below.refl _ _).alloc (Nat.le_refl _) _)).mono ?_
                    rintro e w3 ⟨rfl, hb3⟩
                    have HB3 := Lib.hid (HB0.out.trans (((Below.refl _ _).alloc (Nat.le_refl _) _).trans (hb3.mono (by simp)) |>.mono HB0.out.size))
                    clear hb3
                    go_wp2
                    go_ret
                    exact ⟨rfl, HB3.out⟩
                · have g12 : (12 : Int) < (ar.2.2.length : Int) := by omega
                  rw [decide_eq_false h12, Bool.false_and, Bool.false_and] at hE
                  subst hE
                  go_wp2
                  go_ret
                  exact ⟨rfl, HB0.out.alloc HB0.out.size _⟩
              · have hltz : ¬ (k : Int) < (T.ars.length : Int) := by omega
                have hE := HE.out
                rw [List.drop_eq_nil_of_le (by omega), List.all_nil] at hE
                subst hE
                go_wp2
                go_ret
                exact ⟨rfl, HB0.out⟩
      · have g3 : (40 : Int) < (T.ars.length : Int) := by omega
        rw [decide_eq_false h3, Bool.and_false, Bool.and_false, Bool.false_and] at hF
        subst hF
        go_enter Try.func8, Try.ntmps8
        go_wp2
        go_ret
        exact ⟨rfl, (Below.refl _ _).alloc (Nat.le_refl _) _⟩
    · have g2 : (16 : Int) < (T.tys.length : Int) := by omega
      rw [decide_eq_false h2, Bool.false_and, Bool.and_false, Bool.false_and] at hF
      subst hF
      go_enter Try.func8, Try.ntmps8
      go_wp2
      go_ret
      exact ⟨rfl, (Below.refl _ _).alloc (Nat.le_refl _) _⟩
  · have g1 : (14 : Int) < (T.cls.length : Int) := by omega
    rw [decide_eq_false h1, Bool.false_and, Bool.false_and] at hF
    subst hF
    go_enter Try.func8, Try.ntmps8
    go_wp2
    go_ret
    exact ⟨rfl, (Below.refl _ _).alloc (Nat.le_refl _) _⟩
end Go.Proofs.Ythfomoigaoffgaa.So
