/- Walks of the laws of sort: SortLeast. -/
import Derived.Test.YthfomoigaoffgaaSo14
namespace Go.Proofs.Ythfomoigaoffgaa.So
open Go Go.RowKit Go.Shelf Go.Sort Go.Proofs.Ythfomoigaoffgaa.K Go.Proofs.Ythfomoigaoffgaa.G Go.Proofs.Ythfomoigaoffgaa.Ix Go.Proofs.Ythfomoigaoffgaa.O
set_option linter.unusedSimpArgs false
set_option linter.unusedVariables false

abbrev Any : Nat → Prop := fun _ => True
/-- the state of a law: what was made lies behind, and the theory's copy lies in the first block -/
structure St (w : World) (r : Raw) (T : Thy) (W : World) : Prop where
  below : Below w.heap.size w W
  copy : W.heap[w.heap.size]? = some (.cells (thyC r T) 29 (0, 0))
theorem St.first (w : World) (r : Raw) (T : Thy) : St w r T (w.alloc (.cells (thyC r T) 29)) := ⟨(Below.refl _ _).alloc (Nat.le_refl _) _, World.alloc_heap_new w _⟩
theorem St.lt {w W : World} {r : Raw} {T : Thy} (h : St w r T W) : w.heap.size < W.heap.size := (Array.getElem?_eq_some_iff.1 h.copy).1
theorem St.step {w W W' : World} {r : Raw} {T : Thy} (h : St w r T W) (hb : Below W.heap.size W W') : St w r T W' := ⟨h.below.trans (hb.mono h.below.size), (hb.block _ h.lt).trans h.copy⟩
theorem St.stepC {w W W' : World} {r : Raw} {T : Thy} (h : St w r T W) {B : Nat} (hb : Below B W W') (hB : w.heap.size < B) (hs : B ≤ W.heap.size) : St w r T W' := ⟨h.below.trans (hb.mono (by omega)), (hb.block _ hB).trans h.copy⟩

section
variable {S : Nat → Prop} {r : Raw} {T : Thy}
theorem few2_calls {Sa Sb : Nat → Prop} {Aa Ab : Option Addr} {ca cb : Nat} {a b : List ByteArray} {W : World} (ha : C str Sa W Aa a) (hca : a.length ≤ ca) (hb : C str Sb W Ab b) (hcb : b.length ≤ cb) :
    Calls Try.prog 9 #[.slice (some ⟨W.heap.size, 0, none⟩) 2 2] (W.alloc (.cells #[.slice Aa a.length ca, .slice Ab b.length cb] 27)) fun e W' => e = .returned (.bool (fewS [a, b])) ∧ Below W.heap.size W W' := by
  have hbx : Below W.heap.size W (W.alloc (.cells #[.slice Aa a.length ca, .slice Ab b.length cb] 27)) := (Below.refl _ _).alloc (Nat.le_refl _) _
  have h : C (slice str) Any (W.alloc (.cells #[.slice Aa a.length ca, .slice Ab b.length cb] 27)) (some ⟨W.heap.size, 0, none⟩) [a, b] := C.lit [[.slice Aa a.length ca], [.slice Ab b.length cb]]
    ⟨⟨Aa, ca, rfl, hca, (ha.below hbx).mono (fun _ _ => trivial)⟩, ⟨Ab, cb, rfl, hcb, (hb.below hbx).mono (fun _ _ => trivial)⟩, trivial⟩ (World.alloc_heap_new W _) trivial (by simp [maxLen])
  refine (fewS_calls Any (some ⟨W.heap.size, 0, none⟩) 2 [a, b] _ h (Nat.le_refl _)).mono ?_
  rintro e W' ⟨rfl, hb'⟩
  exact ⟨rfl, hbx.trans (hb'.mono (by simp))⟩
theorem few3_calls {Sa Sb Sc : Nat → Prop} {Aa Ab Ac : Option Addr} {ca cb cc : Nat} {a b c : List ByteArray} {W : World} (ha : C str Sa W Aa a) (hca : a.length ≤ ca) (hb : C str Sb W Ab b) (hcb : b.length ≤ cb) (hc : C str Sc W Ac c) (hcc : c.length ≤ cc) :
    Calls Try.prog 9 #[.slice (some ⟨W.heap.size, 0, none⟩) 3 3] (W.alloc (.cells #[.slice Aa a.length ca, .slice Ab b.length cb, .slice Ac c.length cc] 27)) fun e W' => e = .returned (.bool (fewS [a, b, c])) ∧ Below W.heap.size W W' := by
  have hbx : Below W.heap.size W (W.alloc (.cells #[.slice Aa a.length ca, .slice Ab b.length cb, .slice Ac c.length cc] 27)) := (Below.refl _ _).alloc (Nat.le_refl _) _
  have h : C (slice str) Any (W.alloc (.cells #[.slice Aa a.length ca, .slice Ab b.length cb, .slice Ac c.length cc] 27)) (some ⟨W.heap.size, 0, none⟩) [a, b, c] := C.lit [[.slice Aa a.length ca], [.slice Ab b.length cb], [.slice Ac c.length cc]]
    ⟨⟨Aa, ca, rfl, hca, (ha.below hbx).mono (fun _ _ => trivial)⟩, ⟨Ab, cb, rfl, hcb, (hb.below hbx).mono (fun _ _ => trivial)⟩, ⟨Ac, cc, rfl, hcc, (hc.below hbx).mono (fun _ _ => trivial)⟩, trivial⟩ (World.alloc_heap_new W _) trivial (by simp [maxLen])
  refine (fewS_calls Any (some ⟨W.heap.size, 0, none⟩) 3 [a, b, c] _ h (Nat.le_refl _)).mono ?_
  rintro e W' ⟨rfl, hb'⟩
  exact ⟨rfl, hbx.trans (hb'.mono (by simp))⟩
/-- Normal, of a row that lies anywhere -/
theorem normal_any {Ss : Nat → Prop} {A : Option Addr} {n c : Nat} {s L : List ByteArray} {er : Int} {W : World} (hT : ThyR S W r T) (hC : C str Ss W A s) (hn : n = s.length) (hca : n ≤ c) (hl : s.length ≤ 25) (hss : ∀ x ∈ s, x.size ≤ maxLen) (hfew : (allSups T.cls).length ≤ 100000000) (hN : normB T.cls s = (L, er)) :
    Calls Try.prog 11 #[thyV r T, .slice A n c] W fun e W' => ∃ A' c', e = .returned (.tuple #[.slice A' L.length c', .int .i64 er]) ∧ C str Any W' A' L ∧ L.length ≤ c' ∧ Below W.heap.size W W' := by
  subst hn
  refine (normal_calls S Ss r T A c s W hT hC hca (by omega) hss hfew).mono ?_
  rintro e W' ⟨v, rfl, hm, hb⟩
  rw [hN] at hm ⊢
  obtain ⟨A', c', rfl, hl'⟩ := hm.form
  exact ⟨A', c', rfl, hm.read.2.2.mono (fun _ _ => trivial), hl', hb⟩
end
theorem equal_same {S S' : Nat → Prop} {A1 A2 : Option Addr} {c1 c2 : Nat} {xs : List ByteArray} {w : World} (hx : C str S w A1 xs) (hy : C str S' w A2 xs) :
    Calls Try.prog 15 #[.slice A1 xs.length c1, .slice A2 xs.length c2] w fun e w' => e = .returned (.bool true) ∧ Below w.heap.size w w' := by
  have := equal_calls S S' A1 A2 c1 c2 xs xs w hx hy
  rwa [decide_eq_true rfl] at this
theorem norm_small {cs : List Cl} {s L : List ByteArray} {er : Int} (h : normB cs s = (L, er)) (hs : ∀ x ∈ s, x.size ≤ maxLen) : (∀ x ∈ L, x.size ≤ maxLen) ∧ L.length ≤ s.length := by
  unfold normB at h
  split at h
  · cases h; exact ⟨fun x hx => absurd hx List.not_mem_nil, Nat.zero_le _⟩
  · split at h
    · cases h; exact ⟨fun x hx => absurd hx List.not_mem_nil, Nat.zero_le _⟩
    · split at h
      · cases h; exact ⟨fun x hx => hs x (least_sub hx), least_len⟩
      · cases h; exact ⟨fun x hx => absurd hx List.not_mem_nil, Nat.zero_le _⟩

set_option maxRecDepth 100000 in
set_option maxHeartbeats 2000000 in
theorem sortLeast_calls (S Sa Sb : Nat → Prop) (r : Raw) (T : Thy) (Aa Ab : Option Addr) (ca cb : Nat) (a b : List ByteArray) (w : World) (hT : ThyR S w r T) (ha : C str Sa w Aa a) (hca : a.length ≤ ca) (hb : C str Sb w Ab b) (hcb : b.length ≤ cb)
    (hal : ∀ x ∈ a, x.size ≤ maxLen) (hbl : ∀ x ∈ b, x.size ≤ maxLen) :
    Calls Try.prog 4 #[thyV r T, .slice Aa a.length ca, .slice Ab b.length cb] w fun e w' => e = .returned (.bool true) ∧ Below w.heap.size w w' := by
  have hst := St.first w r T
  obtain ⟨z0, z1, z2, z3, z4, z5, z6⟩ := thy_cells hst.copy
  have hag := Try.isAgg29
  have hsz := Try.sizeOf29
  have HF := Lib.hid (few_calls S r T _ (hT.below hst.below))
  have HT := Lib.hid hT
  have HA := Lib.hid ha
  have HB := Lib.hid hb
  have HST := Lib.hid hst
  have HAW := Lib.hid (fun W => awake_calls W)
  have l1 : a.length ≤ 9223372036854775807 := ha.len
  have l2 : b.length ≤ 9223372036854775807 := hb.len
  generalize hR : fewB T = R at HF
  have HR := Lib.hid hR
  clear hT ha hb hst hR
  unfold thyV
  go_enter Try.func4, Try.ntmps4
  go_wp2_with fail
  refine HF.out.mono ?_
  rintro e w1 ⟨rfl, hb1⟩
  have HST1 := Lib.hid (HST.out.step hb1)
  clear hb1 z0 z1 z2 z3 z4 z5 z6 HF HST
  cases R with
  | false =>
    go_wp2_with fail
    refine (HAW.out _).mono ?_
    rintro e w2 ⟨rfl, hb2⟩
    have HST2 := Lib.hid (HST1.out.step hb2)
    clear hb2
    go_wp2
    go_ret
    exact ⟨rfl, HST2.out.below⟩
  | true =>
    have hfew := fewB_sups HR.out
    go_wp2_with fail
    refine (few2_calls (HA.out.below HST1.out.below) hca (HB.out.below HST1.out.below) hcb).mono ?_
    rintro e w2 ⟨rfl, hb2⟩
    have HST2 := Lib.hid (HST1.out.step hb2)
    clear hb2
    cases hfs : fewS [a, b] with
    | false =>
      clear hfs
      go_wp2_with fail
      refine (HAW.out _).mono ?_
      rintro e w3 ⟨rfl, hb3⟩
      have HST3 := Lib.hid (HST2.out.step hb3)
      clear hb3
      go_wp2
      go_ret
      exact ⟨rfl, HST3.out.below⟩
    | true =>
      have la : a.length ≤ 25 := fewS_mem hfs (by simp)
      have lb : b.length ≤ 25 := fewS_mem hfs (by simp)
      clear hfs
      obtain ⟨z0, z1, z2, z3, z4, z5, z6⟩ := thy_cells HST2.out.copy
      obtain ⟨⟨L, er⟩, hNa⟩ : ∃ p, normB T.cls a = p := ⟨_, rfl⟩
      obtain ⟨⟨M, eb⟩, hNb⟩ : ∃ p, normB T.cls b = p := ⟨_, rfl⟩
      have HNA := Lib.hid hNa
      have HNB := Lib.hid hNb
      clear hNa hNb
      go_wp2_with fail
      refine (normal_any (HT.out.below HST2.out.below) (HA.out.below HST2.out.below) rfl hca la hal hfew HNA.out).mono ?_
      rintro e w3 ⟨A3, c3, rfl, hC3, hlc3, hb3⟩
      have HST3 := Lib.hid (HST2.out.step hb3)
      have HC3 := Lib.hid hC3
      clear hb3 hC3 z0 z1 z2 z3 z4 z5 z6
      obtain ⟨z0, z1, z2, z3, z4, z5, z6⟩ := thy_cells HST3.out.copy
      go_wp2_with fail
      refine (normal_any (HT.out.below HST3.out.below) (HB.out.below HST3.out.below) rfl hcb lb hbl hfew HNB.out).mono ?_
      rintro e w4 ⟨A4, c4, rfl, hC4, hlc4, hb4⟩
      have HST4 := Lib.hid (HST3.out.step hb4)
      have HC4 := Lib.hid hC4
      have HC34 := Lib.hid (HC3.out.below hb4)
      clear hb4 hC4 z0 z1 z2 z3 z4 z5 z6
      by_cases he1 : er = 0
      · subst he1
        by_cases he2 : eb = 0
        · subst he2
          obtain ⟨law1, law2, law3⟩ := least_law (cs := T.cls) (a := a) (b := b) (by rw [HNA.out]) (by rw [HNB.out])
          rw [HNA.out] at law1 law2 law3
          rw [HNB.out] at law3
          change normB T.cls a.reverse = (L, 0) at law1
          change normB T.cls L = (L, 0) at law2
          change (lessB T.cls a b && lessB T.cls b a) = decide (L = M) at law3
          obtain ⟨hLs, hLl⟩ := norm_small HNA.out hal
          have HLT := Lib.hid (fun W hT ha hb => less_calls S Sa Sb r T Aa Ab ca cb a b W hT ha hca hb hcb (by omega) (by omega) hal hfew)
          have HLT2 := Lib.hid (fun W hT hb ha => less_calls S Sb Sa r T Ab Aa cb ca b a W hT hb hcb ha hca (by omega) (by omega) hbl hfew)
          have HL1 := Lib.hid law1
          have HL2 := Lib.hid law2
          have HL3 := Lib.hid law3
          clear law1 law2 law3
          go_wp2_with fail
          refine (clone_any (HA.out.below HST4.out.below) (by omega)).mono ?_
          rintro e w5 ⟨A5, n5, c5, rfl, hm5, hb5⟩
          have HST5 := Lib.hid (HST4.out.step hb5)
          have HC45 := Lib.hid (HC4.out.below hb5)
          have HC35 := Lib.hid (HC34.out.below hb5)
          have HM5 := Lib.hid hm5
          have HB5 := Lib.hid hb5
          clear hb5 hm5
          go_wp2_with fail
          refine (reverse_any HM5.out).mono ?_
          rintro e w6 ⟨rfl, hm6, hb6⟩
          have HST6 := Lib.hid (HST5.out.stepC hb6 HST4.out.lt HB5.out.size)
          have HC36 := Lib.hid ((HC34.out.bound.belowN (HB5.out.trans hb6) (fun k hk => hk.2)).mono (S' := Any) (fun _ _ => trivial))
          have HC46 := Lib.hid ((HC4.out.bound.belowN (HB5.out.trans hb6) (fun k hk => hk.2)).mono (S' := Any) (fun _ _ => trivial))
          obtain ⟨hn5, hnc5, hCr⟩ := hm6.read
          obtain rfl : n5 = a.length := by rw [hn5, List.length_reverse]
          have HCR := Lib.hid hCr
          clear hm6 hb6 hCr hn5 HC45 HC35 HM5 HB5 HC3 HC4 HC34
          obtain ⟨z0, z1, z2, z3, z4, z5, z6⟩ := thy_cells HST6.out.copy
          have HNQ := Lib.hid (normal_any (s := a.reverse) (L := L) (er := 0) (HT.out.below HST6.out.below) HCR.out (List.length_reverse).symm hnc5 (by rw [List.length_reverse]; exact la) (fun x hx => hal x (List.mem_reverse.1 hx)) hfew HL1.out)
          go_wp2_with fail
          refine HNQ.out.mono ?_
          rintro e w7 ⟨A7, c7, rfl, hC7, hlc7, hb7⟩
          have HST7 := Lib.hid (HST6.out.step hb7)
          have HC77 := Lib.hid hC7
          have HC37 := Lib.hid (HC36.out.below hb7)
          have HC47 := Lib.hid (HC46.out.below hb7)
          clear hb7 hC7 HCR HC36 HC46 z0 z1 z2 z3 z4 z5 z6
          obtain ⟨z0, z1, z2, z3, z4, z5, z6⟩ := thy_cells HST7.out.copy
          have HNQ := Lib.hid (normal_any (s := L) (L := L) (er := 0) (HT.out.below HST7.out.below) HC37.out rfl hlc3 (by omega) hLs hfew HL2.out)
          go_wp2_with fail
          refine HNQ.out.mono ?_
          rintro e w8 ⟨A8, c8, rfl, hC8, hlc8, hb8⟩
          have HST8 := Lib.hid (HST7.out.step hb8)
          have HC88 := Lib.hid hC8
          have HC78 := Lib.hid (HC77.out.below hb8)
          have HC38 := Lib.hid (HC37.out.below hb8)
          have HC48 := Lib.hid (HC47.out.below hb8)
          clear hb8 hC8 HC77 HC37 HC47 z0 z1 z2 z3 z4 z5 z6
          go_wp2_with fail
          refine (equal_same HC78.out HC38.out).mono ?_
          rintro e w9 ⟨rfl, hb9⟩
          have HST9 := Lib.hid (HST8.out.step hb9)
          have HC89 := Lib.hid (HC88.out.below hb9)
          have HC39 := Lib.hid (HC38.out.below hb9)
          have HC49 := Lib.hid (HC48.out.below hb9)
          clear hb9 HC78 HC38 HC48 HC88
          go_wp2_with fail
          refine (equal_same HC89.out HC39.out).mono ?_
          rintro e w10 ⟨rfl, hb10⟩
          have HST10 := Lib.hid (HST9.out.step hb10)
          have HC310 := Lib.hid (HC39.out.below hb10)
          have HC410 := Lib.hid (HC49.out.below hb10)
          clear hb10 HC89 HC39 HC49
          obtain ⟨z0, z1, z2, z3, z4, z5, z6⟩ := thy_cells HST10.out.copy
          have HX := Lib.hid (HLT.out w10 (HT.out.below HST10.out.below) (HA.out.below HST10.out.below) (HB.out.below HST10.out.below))
          have h3 := HL3.out
          generalize lessB T.cls a b = X at HX h3
          generalize lessB T.cls b a = Y at HLT2 h3
          cases X with
          | false =>
            rw [Bool.false_and] at h3
            have HEQ := Lib.hid (fun W h1 h2 => equal_calls Any Any A3 A4 c3 c4 L M W h1 h2)
            rw [← h3] at HEQ
            have H3 := Lib.hid h3
            clear h3
            go_wp2_with fail
            refine HX.out.mono ?_
            rintro e w11 ⟨rfl, hb11⟩
            have HST11 := Lib.hid (HST10.out.step hb11)
            have HC311 := Lib.hid (HC310.out.below hb11)
            have HC411 := Lib.hid (HC410.out.below hb11)
            clear hb11 HC310 HC410 z0 z1 z2 z3 z4 z5 z6
            go_wp2_with fail
            refine (HEQ.out _ HC311.out HC411.out).mono ?_
            rintro e w12 ⟨rfl, hb12⟩
            have HST12 := Lib.hid (HST11.out.step hb12)
            clear hb12
            go_wp2_with fail
            refine (HAW.out _).mono ?_
            rintro e w13 ⟨rfl, hb13⟩
            have HST13 := Lib.hid (HST12.out.step hb13)
            clear hb13
            go_wp2
            go_ret
            exact ⟨rfl, HST13.out.below⟩
          | true =>
            rw [Bool.true_and] at h3
            have HEQ := Lib.hid (fun W h1 h2 => equal_calls Any Any A3 A4 c3 c4 L M W h1 h2)
            rw [← h3] at HEQ
            clear h3
            go_wp2_with fail
            refine HX.out.mono ?_
            rintro e w11 ⟨rfl, hb11⟩
            have HST11 := Lib.hid (HST10.out.step hb11)
            have HC311 := Lib.hid (HC310.out.below hb11)
            have HC411 := Lib.hid (HC410.out.below hb11)
            clear hb11 HC310 HC410 z0 z1 z2 z3 z4 z5 z6
            obtain ⟨z0, z1, z2, z3, z4, z5, z6⟩ := thy_cells HST11.out.copy
            have HX2 := Lib.hid (HLT2.out w11 (HT.out.below HST11.out.below) (HB.out.below HST11.out.below) (HA.out.below HST11.out.below))
            cases Y with
            | _ =>
              go_wp2_with fail
              refine HX2.out.mono ?_
              rintro e w12 ⟨rfl, hb12⟩
              have HST12 := Lib.hid (HST11.out.step hb12)
              have HC312 := Lib.hid (HC311.out.below hb12)
              have HC412 := Lib.hid (HC411.out.below hb12)
              clear hb12
              go_wp2_with fail
              refine (HEQ.out _ HC312.out HC412.out).mono ?_
              rintro e w13 ⟨rfl, hb13⟩
              have HST13 := Lib.hid (HST12.out.step hb13)
              clear hb13
              go_wp2_with fail
              refine (HAW.out _).mono ?_
              rintro e w14 ⟨rfl, hb14⟩
              have HST14 := Lib.hid (HST13.out.step hb14)
              clear hb14
              go_wp2
              go_ret
              exact ⟨rfl, HST14.out.below⟩
        · go_wp2_with fail
          refine (HAW.out _).mono ?_
          rintro e w5 ⟨rfl, hb5⟩
          have HST5 := Lib.hid (HST4.out.step hb5)
          clear hb5
          go_wp2
          go_ret
          exact ⟨rfl, HST5.out.below⟩
      · go_wp2_with fail
        refine (HAW.out _).mono ?_
        rintro e w5 ⟨rfl, hb5⟩
        have HST5 := Lib.hid (HST4.out.step hb5)
        clear hb5
        go_wp2
        go_ret
        exact ⟨rfl, HST5.out.below⟩
end Go.Proofs.Ythfomoigaoffgaa.So
