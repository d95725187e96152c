/- Walks of the laws of sort: SortChecks. -/
import Derived.Test.YthfomoigaoffgaaRc5
import Derived.Test.YthfomoigaoffgaaSo15
namespace Go.Proofs.Ythfomoigaoffgaa.Rc
open Go Go.RowKit Go.Proofs.Ythfomoigaoffgaa.K Go.Proofs.Ythfomoigaoffgaa.G Go.Proofs.Ythfomoigaoffgaa.Ix Go.Proofs.Ythfomoigaoffgaa.O Go.Proofs.Ythfomoigaoffgaa.So
set_option linter.unusedSimpArgs false
set_option linter.unusedVariables false

theorem arsS_of {T : Thy} (h : fewB T = true) (hty : ∀ d ∈ T.tys, d.1.size ≤ maxLen) (har : ∀ a ∈ T.ars, a.1.size ≤ maxLen ∧ a.2.1.size ≤ maxLen ∧ ∀ s ∈ a.2.2, ∀ y ∈ s, y.size ≤ maxLen) : Ch.ArsS T := by
  refine ⟨hty, fun a ha => ?_, fewB_sups h⟩
  obtain ⟨h1, h2, h3⟩ := har a ha
  simp only [fewB, Bool.and_eq_true] at h
  have hf := List.all_eq_true.1 h.2.2 a ha
  simp only [fewAr, Bool.and_eq_true, decide_eq_true_eq] at hf
  exact ⟨h1, h2, by omega, fun s hs => ⟨by have := fewS_mem hf.2 hs; omega, h3 s hs⟩⟩

set_option maxRecDepth 100000 in
set_option maxHeartbeats 16000000 in
theorem sortChecks_calls (S Sa Sb : Nat → Prop) (r : Raw) (T : Thy) (Aa Ab : Option Addr) (ca cb : Nat) (a b : List ByteArray) (x y : ByteArray) (w : World) (hT : ThyR S w r T) (ha : C str Sa w Aa a) (hca : a.length ≤ ca) (hb : C str Sb w Ab b) (hcb : b.length ≤ cb)
    (hal : ∀ x ∈ a, x.size ≤ maxLen) (hbl : ∀ x ∈ b, x.size ≤ maxLen) (hx : x.size ≤ maxLen) (hty : ∀ d ∈ T.tys, d.1.size ≤ maxLen) (har : ∀ a ∈ T.ars, a.1.size ≤ maxLen ∧ a.2.1.size ≤ maxLen ∧ ∀ s ∈ a.2.2, ∀ y ∈ s, y.size ≤ maxLen) :
    Calls Try.prog 6 #[thyV r T, .slice Aa a.length ca, .slice Ab b.length cb, .string x, .string y] w fun e w' => e = .returned (.bool true) ∧ Below w.heap.size w w' := by
  have hst := St.first w r T
  obtain ⟨z0, z1, z2, z3, z4, z5, z6⟩ := thy_cells hst.copy
  have hag := Try.isAgg29
  have hsz := Try.sizeOf29
  have HF := Lib.hid (few_calls S r T _ (hT.below hst.below))
  have HT := Lib.hid hT
  have HA := Lib.hid ha
  have HB := Lib.hid hb
  have HST := Lib.hid hst
  have HAW := Lib.hid (fun W => awake_calls W)
  have l1 : a.length ≤ 9223372036854775807 := ha.len
  have l2 : b.length ≤ 9223372036854775807 := hb.len
  have l3 : x.size ≤ 9223372036854775807 := by simpa [maxLen] using hx
  generalize hR : fewB T = R at HF
  have HR := Lib.hid hR
  have HTy := Lib.hid hty
  have HAr := Lib.hid har
  have Hx := Lib.hid hx
  clear hT ha hb hst hR hty har hx
  unfold thyV
  go_enter Try.func6, Try.ntmps6
  go_wp2_with fail
  refine HF.out.mono ?_
  rintro e w1 ⟨rfl, hb1⟩
  have HST1 := Lib.hid (HST.out.step hb1)
  clear hb1 z0 z1 z2 z3 z4 z5 z6 HF HST
  cases R with
  | false =>
    go_wp2_with fail
    refine (HAW.out _).mono ?_
    rintro e w2 ⟨rfl, hb2⟩
    have HST2 := Lib.hid (HST1.out.step hb2)
    clear hb2
    go_wp2
    go_ret
    exact ⟨rfl, HST2.out.below⟩
  | true =>
    have HS := Lib.hid (arsS_of HR.out HTy.out HAr.out)
    go_wp2_with fail
    refine (few2_calls (HA.out.below HST1.out.below) hca (HB.out.below HST1.out.below) hcb).mono ?_
    rintro e w2 ⟨rfl, hb2⟩
    have HST2 := Lib.hid (HST1.out.step hb2)
    clear hb2
    cases hfs : fewS [a, b] with
    | false =>
      clear hfs
      go_wp2_with fail
      refine (HAW.out _).mono ?_
      rintro e w3 ⟨rfl, hb3⟩
      have HST3 := Lib.hid (HST2.out.step hb3)
      clear hb3
      go_wp2
      go_ret
      exact ⟨rfl, HST3.out.below⟩
    | true =>
      have la : a.length ≤ 25 := fewS_mem hfs (by simp)
      have lb : b.length ≤ 25 := fewS_mem hfs (by simp)
      clear hfs
      by_cases h100 : 100 < x.size
      · have g : (100 : Int) < (x.size : Int) := by omega
        clear h100
        go_wp2_with fail
        refine (HAW.out _).mono ?_
        rintro e w3 ⟨rfl, hb3⟩
        have HST3 := Lib.hid (HST2.out.step hb3)
        clear hb3
        go_wp2
        go_ret
        exact ⟨rfl, HST3.out.below⟩
      · have g : ¬ (100 : Int) < (x.size : Int) := by omega
        have H1 := Lib.hid (fun W (h : St w r T W) => (Ch.Check_calls S r T W (HT.out.below h.below) HS.out).mono fun e W' (q : e = .returned (.int .i64 (checkT T.cls T.tys T.ars)) ∧ Below W.heap.size W W') => And.intro q.1 (h.step q.2))
        have H2 := Lib.hid (fun W (h : St w r T W) => (Rc.Check_calls S r T W (HT.out.below h.below) HTy.out).mono fun e W' (q : e = .returned (.int .i64 (checkT T.cls T.tys T.ars)) ∧ Below W.heap.size W W') => And.intro q.1 (h.step q.2))
        have H3 := Lib.hid (fun W (h : St w r T W) => (Ch.Below_calls S r T x y W (HT.out.below h.below) Hx.out HS.out.2.2).mono fun e W' (q : e = .returned (.bool (Ch.belowT T.cls x y)) ∧ Below W.heap.size W W') => And.intro q.1 (h.step q.2))
        have H4 := Lib.hid (fun W (h : St w r T W) => (Rc.Below_calls S r T x y W (HT.out.below h.below)).mono fun e W' (q : e = .returned (.bool (Ch.belowT T.cls x y)) ∧ Below W.heap.size W W') => And.intro q.1 (h.step q.2))
        have H5 := Lib.hid (fun W (h : St w r T W) => (So.less_calls S Sa Sb r T Aa Ab ca cb a b W (HT.out.below h.below) (HA.out.below h.below) hca (HB.out.below h.below) hcb (by omega) (by omega) hal HS.out.2.2).mono fun e W' (q : e = .returned (.bool (lessB T.cls a b)) ∧ Below W.heap.size W W') => And.intro q.1 (h.step q.2))
        have H6 := Lib.hid (fun W (h : St w r T W) => (Rc.Less_calls S Sa Sb r T Aa Ab ca cb a b W (HT.out.below h.below) (HA.out.below h.below) (HB.out.below h.below)).mono fun e W' (q : e = .returned (.bool (lessB T.cls a b)) ∧ Below W.heap.size W W') => And.intro q.1 (h.step q.2))
        have H7 := Lib.hid (fun W (h : St w r T W) => (So.IsName_calls x W Hx.out).mono fun e W' (q : e = .returned (.bool (nameB x)) ∧ Below W.heap.size W W') => And.intro q.1 (h.step q.2))
        have H8 := Lib.hid (fun W (h : St w r T W) => (Rf.IsName_calls x W Hx.out).mono fun e W' (q : e = .returned (.bool (nameB x)) ∧ Below W.heap.size W W') => And.intro q.1 (h.step q.2))
        have H9 := Lib.hid (fun W (h : St w r T W) => (awake_calls W).mono fun e W' (q : e = .returned (.bool true) ∧ Below W.heap.size W W') => And.intro q.1 (h.step q.2))
        generalize checkT T.cls T.tys T.ars = E1 at H1 H2
        generalize Ch.belowT T.cls x y = E2 at H3 H4
        generalize lessB T.cls a b = E3 at H5 H6
        generalize nameB x = E4 at H7 H8
        have hs := HST2.out
        have hsd : St w r T w2.drew := hs.step (Rf.below_drew1 (Below.refl _ w2))
        obtain ⟨z0, z1, z2, z3, z4, z5, z6⟩ := thy_cells hs.copy
        unfold thyV thyC at H1 H2 H3 H4 H5 H6
        clear h100 HS HTy HAr Hx HT HA HB HAW HR HST2 HST1 hal hbl la lb
        go_wp2
        go_region_held3 (fun W' => W'.cell? ⟨w.heap.size, 0, none⟩ = some (.string r.nm) ∧ W'.cell? ⟨w.heap.size, 1, none⟩ = some (.slice r.a1 T.cls.length r.c1) ∧ W'.cell? ⟨w.heap.size, 2, none⟩ = some (.slice r.a2 T.tys.length r.c2) ∧ W'.cell? ⟨w.heap.size, 3, none⟩ = some (.slice r.a3 T.ars.length r.c3) ∧
            W'.cell? ⟨w.heap.size, 4, none⟩ = some (.slice r.a4 r.n4 r.c4) ∧ W'.cell? ⟨w.heap.size, 5, none⟩ = some (.slice r.a5 r.n5 r.c5) ∧ W'.cell? ⟨w.heap.size, 6, none⟩ = some (.slice r.a6 r.n6 r.c6)) (go_keep)
          (first
            | (go_at_call 19
               (with_reducible refine (H1.out _ ?_).mono ?_)
               (assumption)
               rintro e wn ⟨rfl, hsn⟩
               clear z0 z1 z2 z3 z4 z5 z6
               obtain ⟨z0, z1, z2, z3, z4, z5, z6⟩ := thy_cells hsn.copy)
            | (go_at_call 20
               (with_reducible refine (H2.out _ ?_).mono ?_)
               (assumption)
               rintro e wn ⟨rfl, hsn⟩
               clear z0 z1 z2 z3 z4 z5 z6
               obtain ⟨z0, z1, z2, z3, z4, z5, z6⟩ := thy_cells hsn.copy)
            | (go_at_call 21
               (with_reducible refine (H3.out _ ?_).mono ?_)
               (assumption)
               rintro e wn ⟨rfl, hsn⟩
               clear z0 z1 z2 z3 z4 z5 z6
               obtain ⟨z0, z1, z2, z3, z4, z5, z6⟩ := thy_cells hsn.copy)
            | (go_at_call 22
               (with_reducible refine (H4.out _ ?_).mono ?_)
               (assumption)
               rintro e wn ⟨rfl, hsn⟩
               clear z0 z1 z2 z3 z4 z5 z6
               obtain ⟨z0, z1, z2, z3, z4, z5, z6⟩ := thy_cells hsn.copy)
            | (go_at_call 18
               (with_reducible refine (H5.out _ ?_).mono ?_)
               (assumption)
               rintro e wn ⟨rfl, hsn⟩
               clear z0 z1 z2 z3 z4 z5 z6
               obtain ⟨z0, z1, z2, z3, z4, z5, z6⟩ := thy_cells hsn.copy)
            | (go_at_call 23
               (with_reducible refine (H6.out _ ?_).mono ?_)
               (assumption)
               rintro e wn ⟨rfl, hsn⟩
               clear z0 z1 z2 z3 z4 z5 z6
               obtain ⟨z0, z1, z2, z3, z4, z5, z6⟩ := thy_cells hsn.copy)
            | (go_at_call 24
               (with_reducible refine (H7.out _ ?_).mono ?_)
               (assumption)
               rintro e wn ⟨rfl, hsn⟩
               clear z0 z1 z2 z3 z4 z5 z6
               obtain ⟨z0, z1, z2, z3, z4, z5, z6⟩ := thy_cells hsn.copy)
            | (go_at_call 25
               (with_reducible refine (H8.out _ ?_).mono ?_)
               (assumption)
               rintro e wn ⟨rfl, hsn⟩
               clear z0 z1 z2 z3 z4 z5 z6
               obtain ⟨z0, z1, z2, z3, z4, z5, z6⟩ := thy_cells hsn.copy)
            | (go_at_call 10
               (with_reducible refine (H9.out _ ?_).mono ?_)
               (assumption)
               rintro e wn ⟨rfl, hsn⟩
               clear z0 z1 z2 z3 z4 z5 z6
               obtain ⟨z0, z1, z2, z3, z4, z5, z6⟩ := thy_cells hsn.copy))
        all_goals
          go_wp2_with fail
          go_ret
          exact ⟨rfl, (‹St w r T _›).below⟩
end Go.Proofs.Ythfomoigaoffgaa.Rc
