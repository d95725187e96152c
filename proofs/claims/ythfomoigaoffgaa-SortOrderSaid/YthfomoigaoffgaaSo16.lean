/- Walks of the laws of sort: SortOrder. -/
import Derived.Test.YthfomoigaoffgaaSo15
import Derived.Deep.RegionWith
import Derived.Deep.CutRange
namespace Go.Proofs.Ythfomoigaoffgaa.So
open Go Go.RowKit Go.Shelf Go.Sort Go.Proofs.Ythfomoigaoffgaa.K Go.Proofs.Ythfomoigaoffgaa.G Go.Proofs.Ythfomoigaoffgaa.Ix Go.Proofs.Ythfomoigaoffgaa.O
set_option linter.unusedSimpArgs false
set_option linter.unusedVariables false

abbrev RowL := List (Option Addr × Nat × List ByteArray)
/-- rows that lie in a world and fit the laws' bounds -/
def RowsAt (W : World) (l : RowL) : Prop := ∀ x ∈ l, C str Any W x.1 x.2.2 ∧ x.2.2.length ≤ x.2.1 ∧ x.2.2.length ≤ 1000 ∧ ∀ y ∈ x.2.2, y.size ≤ maxLen
structure St2 (w : World) (r : Raw) (T : Thy) (l : RowL) (W : World) : Prop where
  st : St w r T W
  thy : ThyR Any W r T
  rows : RowsAt W l
theorem St2.step {w W W' : World} {r : Raw} {T : Thy} {l : RowL} (h : St2 w r T l W) (hb : Below W.heap.size W W') : St2 w r T l W' := ⟨h.st.step hb, h.thy.below hb, fun x hx => ⟨(h.rows x hx).1.below hb, (h.rows x hx).2⟩⟩
theorem St2.add {w W : World} {r : Raw} {T : Thy} {l : RowL} (h : St2 w r T l W) {A : Option Addr} {c : Nat} {s : List ByteArray} (hC : C str Any W A s) (hc : s.length ≤ c) (hl : s.length ≤ 1000) (hs : ∀ y ∈ s, y.size ≤ maxLen) : St2 w r T ((A, c, s) :: l) W := ⟨h.st, h.thy, fun x hx => by
  rcases List.mem_cons.1 hx with rfl | hx
  · exact ⟨hC, hc, hl, hs⟩
  · exact h.rows x hx⟩
theorem less_any {w W : World} {r : Raw} {T : Thy} {l : RowL} (hfew : (allSups T.cls).length ≤ 100000000) (A1 A2 : Option Addr) (c1 c2 : Nat) (x y : List ByteArray) (h1 : (A1, c1, x) ∈ l) (h2 : (A2, c2, y) ∈ l) {R : Bool} (hR : lessB T.cls x y = R) (h : St2 w r T l W) :
    Calls Try.prog 18 #[.agg #[.string r.nm, .slice r.a1 T.cls.length r.c1, .slice r.a2 T.tys.length r.c2, .slice r.a3 T.ars.length r.c3, .slice r.a4 r.n4 r.c4, .slice r.a5 r.n5 r.c5, .slice r.a6 r.n6 r.c6], .slice A1 x.length c1, .slice A2 y.length c2] W fun e W' => e = .returned (.bool R) ∧ St2 w r T l W' := by
  subst hR
  obtain ⟨k1, k2, k3, k4⟩ := h.rows _ h1
  obtain ⟨m1, m2, m3, m4⟩ := h.rows _ h2
  refine (less_calls Any Any Any r T A1 A2 c1 c2 x y W h.thy k1 k2 m1 m2 (by simp only at k3; omega) (by simp only at m3; omega) k4 hfew).mono ?_
  rintro e W' ⟨rfl, hb⟩
  exact ⟨rfl, h.step hb⟩
theorem norm_anyL {w W : World} {r : Raw} {T : Thy} {l : RowL} (hfew : (allSups T.cls).length ≤ 100000000) (A : Option Addr) (c : Nat) (s : List ByteArray) (h1 : (A, c, s) ∈ l) (hl : s.length ≤ 25) {L : List ByteArray} {er : Int} (hN : normB T.cls s = (L, er)) (h : St2 w r T l W) :
    Calls Try.prog 11 #[.agg #[.string r.nm, .slice r.a1 T.cls.length r.c1, .slice r.a2 T.tys.length r.c2, .slice r.a3 T.ars.length r.c3, .slice r.a4 r.n4 r.c4, .slice r.a5 r.n5 r.c5, .slice r.a6 r.n6 r.c6], .slice A s.length c] W fun e W' => ∃ A' c', e = .returned (.tuple #[.slice A' L.length c', .int .i64 er]) ∧ St2 w r T ((A', c', L) :: l) W' := by
  obtain ⟨k1, k2, k3, k4⟩ := h.rows _ h1
  refine (normal_any h.thy k1 rfl k2 hl k4 hfew hN).mono ?_
  rintro e W' ⟨A', c', rfl, hC, hc, hb⟩
  obtain ⟨n1, n2⟩ := norm_small hN k4
  exact ⟨A', c', rfl, (h.step hb).add hC hc (by omega) n1⟩
theorem meet_small {cs : List Cl} {a b M : List ByteArray} {er : Int} (h : meetB cs a b = (M, er)) (ha : ∀ x ∈ a, x.size ≤ maxLen) (hb : ∀ x ∈ b, x.size ≤ maxLen) : (∀ x ∈ M, x.size ≤ maxLen) ∧ M.length ≤ a.length + b.length := by
  unfold meetB at h
  split at h
  · cases h; exact ⟨fun x hx => absurd hx List.not_mem_nil, Nat.zero_le _⟩
  · split at h
    · cases h; exact ⟨fun x hx => absurd hx List.not_mem_nil, Nat.zero_le _⟩
    · split at h
      · cases h; exact ⟨fun x hx => absurd hx List.not_mem_nil, Nat.zero_le _⟩
      · cases h
        refine ⟨fun x hx => ?_, by have := least_len (cs := cs) (s := a ++ b); rwa [List.length_append] at this⟩
        rcases List.mem_append.1 (least_sub hx) with h | h
        · exact ha x h
        · exact hb x h
theorem meet_anyL {w W : World} {r : Raw} {T : Thy} {l : RowL} (hfew : (allSups T.cls).length ≤ 100000000) (A1 A2 : Option Addr) (c1 c2 : Nat) (x y : List ByteArray) (h1 : (A1, c1, x) ∈ l) (h2 : (A2, c2, y) ∈ l) (hx : x.length ≤ 25) (hy : y.length ≤ 25) {M : List ByteArray} {er : Int} (hM : meetB T.cls x y = (M, er)) (h : St2 w r T l W) :
    Calls Try.prog 13 #[.agg #[.string r.nm, .slice r.a1 T.cls.length r.c1, .slice r.a2 T.tys.length r.c2, .slice r.a3 T.ars.length r.c3, .slice r.a4 r.n4 r.c4, .slice r.a5 r.n5 r.c5, .slice r.a6 r.n6 r.c6], .slice A1 x.length c1, .slice A2 y.length c2] W fun e W' => ∃ A' c', e = .returned (.tuple #[.slice A' M.length c', .int .i64 er]) ∧ St2 w r T ((A', c', M) :: l) W' := by
  obtain ⟨k1, k2, k3, k4⟩ := h.rows _ h1
  obtain ⟨m1, m2, m3, m4⟩ := h.rows _ h2
  refine (meet_calls Any Any Any r T A1 A2 c1 c2 x y W h.thy k1 k2 m1 m2 (by omega) (by omega) k4 m4 hfew).mono ?_
  rintro e W' ⟨v, rfl, hm, hb⟩
  rw [hM] at hm ⊢
  obtain ⟨A', c', rfl, hl'⟩ := hm.form
  obtain ⟨n1, n2⟩ := meet_small hM k4 m4
  exact ⟨A', c', rfl, (h.step hb).add (hm.read.2.2.mono (fun _ _ => trivial)) hl' (by omega) n1⟩
theorem awake_any {w W : World} {r : Raw} {T : Thy} {l : RowL} (h : St2 w r T l W) : Calls Try.prog 10 #[] W fun e W' => e = .returned (.bool true) ∧ St2 w r T l W' := (awake_calls W).mono (fun e W' ⟨he, hb⟩ => ⟨he, h.step hb⟩)

set_option maxRecDepth 100000 in
set_option maxHeartbeats 20000000 in
theorem sortOrder_calls (S Sa Sb Sc : Nat → Prop) (r : Raw) (T : Thy) (Aa Ab Ac : Option Addr) (ca cb cc : Nat) (a b c : List ByteArray) (w : World) (hT : ThyR S w r T) (ha : C str Sa w Aa a) (hca : a.length ≤ ca) (hb : C str Sb w Ab b) (hcb : b.length ≤ cb) (hc : C str Sc w Ac c) (hcc : c.length ≤ cc)
    (hal : ∀ x ∈ a, x.size ≤ maxLen) (hbl : ∀ x ∈ b, x.size ≤ maxLen) (hcl : ∀ x ∈ c, x.size ≤ maxLen) :
    Calls Try.prog 5 #[thyV r T, .slice Aa a.length ca, .slice Ab b.length cb, .slice Ac c.length cc] w fun e w' => e = .returned (.bool true) ∧ Below w.heap.size w w' := by
  have hst := St.first w r T
  obtain ⟨z0, z1, z2, z3, z4, z5, z6⟩ := thy_cells hst.copy
  have hag := Try.isAgg29
  have hsz := Try.sizeOf29
  have HF := Lib.hid (few_calls S r T _ (hT.below hst.below))
  have HT := Lib.hid hT
  have HA := Lib.hid ha
  have HB := Lib.hid hb
  have HC := Lib.hid hc
  have HST := Lib.hid hst
  have HAW := Lib.hid (fun W => awake_calls W)
  have l1 : a.length ≤ 9223372036854775807 := ha.len
  have l2 : b.length ≤ 9223372036854775807 := hb.len
  have l3 : c.length ≤ 9223372036854775807 := hc.len
  generalize hR : fewB T = R at HF
  have HR := Lib.hid hR
  clear hT ha hb hc hst hR
  unfold thyV
  go_enter Try.func5, Try.ntmps5
  go_wp2_with fail
  refine HF.out.mono ?_
  rintro e w1 ⟨rfl, hb1⟩
  have HST1 := Lib.hid (HST.out.step hb1)
  clear hb1 z0 z1 z2 z3 z4 z5 z6 HF HST
  cases R with
  | false =>
    go_wp2_with fail
    refine (HAW.out _).mono ?_
    rintro e w2 ⟨rfl, hb2⟩
    have HST2 := Lib.hid (HST1.out.step hb2)
    clear hb2
    go_wp2
    go_ret
    exact ⟨rfl, HST2.out.below⟩
  | true =>
    have hfew := fewB_sups HR.out
    go_wp2_with fail
    refine (few3_calls (HA.out.below HST1.out.below) hca (HB.out.below HST1.out.below) hcb (HC.out.below HST1.out.below) hcc).mono ?_
    rintro e w2 ⟨rfl, hb2⟩
    have HST2 := Lib.hid (HST1.out.step hb2)
    clear hb2
    cases hfs : fewS [a, b, c] with
    | false =>
      clear hfs
      go_wp2_with fail
      refine (HAW.out _).mono ?_
      rintro e w3 ⟨rfl, hb3⟩
      have HST3 := Lib.hid (HST2.out.step hb3)
      clear hb3
      go_wp2
      go_ret
      exact ⟨rfl, HST3.out.below⟩
    | true =>
      have la : a.length ≤ 25 := fewS_mem hfs (by simp)
      have lb : b.length ≤ 25 := fewS_mem hfs (by simp)
      have lc : c.length ≤ 25 := fewS_mem hfs (by simp)
      clear hfs
      have hs2 : St2 w r T [(Aa, ca, a), (Ab, cb, b), (Ac, cc, c)] w2 := ⟨HST2.out, (HT.out.below HST2.out.below).mono (fun _ _ => trivial), fun x hx => by
        simp only [List.mem_cons, List.not_mem_nil, or_false] at hx
        rcases hx with rfl | rfl | rfl
        · exact ⟨(HA.out.below HST2.out.below).mono (fun _ _ => trivial), hca, by simp only; omega, hal⟩
        · exact ⟨(HB.out.below HST2.out.below).mono (fun _ _ => trivial), hcb, by simp only; omega, hbl⟩
        · exact ⟨(HC.out.below HST2.out.below).mono (fun _ _ => trivial), hcc, by simp only; omega, hcl⟩⟩
      clear HT HA HB HC HST2 HST1
      obtain ⟨z0, z1, z2, z3, z4, z5, z6⟩ := thy_cells hs2.st.copy
      obtain ⟨⟨L, er⟩, hNa⟩ : ∃ p, normB T.cls a = p := ⟨_, rfl⟩
      obtain ⟨⟨Lb, eb⟩, hNb⟩ : ∃ p, normB T.cls b = p := ⟨_, rfl⟩
      obtain ⟨⟨Lc, ec⟩, hNc⟩ : ∃ p, normB T.cls c = p := ⟨_, rfl⟩
      obtain ⟨⟨M, em⟩, hNm⟩ : ∃ p, meetB T.cls a b = p := ⟨_, rfl⟩
      have hq := Lib.hid (norm_anyL (W := w2) hfew Aa ca a (by simp) la hNa hs2)
      have HNA := Lib.hid hNa
      have HNB := Lib.hid hNb
      have HNC := Lib.hid hNc
      have HNM := Lib.hid hNm
      clear hNa hNb hNc hNm
      go_wp2_with fail
      refine hq.out.mono ?_
      rintro e w3 ⟨A3, c3, rfl, hs3⟩
      clear hs2 hq z0 z1 z2 z3 z4 z5 z6
      obtain ⟨z0, z1, z2, z3, z4, z5, z6⟩ := thy_cells hs3.st.copy
      have hq := Lib.hid (norm_anyL hfew Ab cb b (by simp) lb HNB.out hs3)
      go_wp2_with fail
      refine hq.out.mono ?_
      rintro e w4 ⟨A4, c4, rfl, hs4⟩
      clear hs3 hq z0 z1 z2 z3 z4 z5 z6
      obtain ⟨z0, z1, z2, z3, z4, z5, z6⟩ := thy_cells hs4.st.copy
      have hq := Lib.hid (norm_anyL hfew Ac cc c (by simp) lc HNC.out hs4)
      go_wp2_with fail
      refine hq.out.mono ?_
      rintro e w5 ⟨A5, c5, rfl, hs5⟩
      clear hs4 hq z0 z1 z2 z3 z4 z5 z6
      obtain ⟨z0, z1, z2, z3, z4, z5, z6⟩ := thy_cells hs5.st.copy
      have hq := Lib.hid (meet_anyL hfew Aa Ab ca cb a b (by simp) (by simp) la lb HNM.out hs5)
      go_wp2_with fail
      refine hq.out.mono ?_
      rintro e w6 ⟨A6, c6, rfl, hs6⟩
      clear hs5 hq z0 z1 z2 z3 z4 z5 z6
      have hq := Lib.hid (awake_any hs6)
      by_cases h1 : er = 0
      · subst h1
        by_cases h2 : eb = 0
        · subst h2
          by_cases h3 : ec = 0
          · subst h3
            by_cases h4 : em = 0
            · subst h4
              obtain ⟨o1, o2, o3, o4, o5, o6, o7⟩ := order_law (cs := T.cls) (a := a) (b := b) (c := c) (by rw [HNA.out]) (by rw [HNB.out]) (by rw [HNC.out]) (by rw [HNM.out])
              rw [HNA.out] at o2 o3
              rw [HNM.out] at o5 o6 o7
              generalize hl : [(A6, c6, M), (A5, c5, Lc), (A4, c4, Lb), (A3, c3, L), (Aa, ca, a), (Ab, cb, b), (Ac, cc, c)] = l at hs6 hq
              have ma : (Aa, ca, a) ∈ l := by rw [← hl]; simp
              have mb : (Ab, cb, b) ∈ l := by rw [← hl]; simp
              have mc : (Ac, cc, c) ∈ l := by rw [← hl]; simp
              have mL : (A3, c3, L) ∈ l := by rw [← hl]; simp
              have mM : (A6, c6, M) ∈ l := by rw [← hl]; simp
              have H1 := Lib.hid (fun W => less_any (w := w) (W := W) (r := r) hfew Aa Aa ca ca a a ma ma o1)
              have H2 := Lib.hid (fun W => less_any (w := w) (W := W) (r := r) hfew A3 Aa c3 ca L a mL ma o2)
              have H3 := Lib.hid (fun W => less_any (w := w) (W := W) (r := r) hfew Aa A3 ca c3 a L ma mL o3)
              have H4 := Lib.hid (fun W => less_any (w := w) (W := W) (r := r) hfew Aa Ab ca cb a b ma mb rfl)
              have H5 := Lib.hid (fun W => less_any (w := w) (W := W) (r := r) hfew Ab Ac cb cc b c mb mc rfl)
              have H6 := Lib.hid (fun W => less_any (w := w) (W := W) (r := r) hfew Aa Ac ca cc a c ma mc rfl)
              have H7 := Lib.hid (fun W => less_any (w := w) (W := W) (r := r) hfew A6 Aa c6 ca M a mM ma o5)
              have H8 := Lib.hid (fun W => less_any (w := w) (W := W) (r := r) hfew A6 Ab c6 cb M b mM mb o6)
              have H9 := Lib.hid (fun W => less_any (w := w) (W := W) (r := r) hfew Ac A6 cc c6 c M mc mM o7)
              have H10 := Lib.hid (fun W => less_any (w := w) (W := W) (r := r) hfew Ac Aa cc ca c a mc ma rfl)
              have H11 := Lib.hid (fun W => less_any (w := w) (W := W) (r := r) hfew Ac Ab cc cb c b mc mb rfl)
              generalize lessB T.cls a b = P1 at H4 o4
              generalize lessB T.cls b c = P2 at H5 o4
              generalize lessB T.cls a c = P3 at H6 o4
              generalize lessB T.cls c a = P at H9 H10
              generalize lessB T.cls c b = Q at H9 H11
              have O4 := Lib.hid o4
              clear o1 o2 o3 o4 o5 o6 o7 ma mb mc mL mM hl hq
              go_upto_region 9 with fail
              go_cut [106] from 69 to 106 (fun v wx => v = .bool false ∧ St2 w r T l wx)
              case first =>
                obtain ⟨z0, z1, z2, z3, z4, z5, z6⟩ := thy_cells hs6.st.copy
                go_wp2_with fail
                refine (H1.out _ hs6).mono ?_
                rintro e w7 ⟨rfl, hs7⟩
                clear hs6 z0 z1 z2 z3 z4 z5 z6
                obtain ⟨z0, z1, z2, z3, z4, z5, z6⟩ := thy_cells hs7.st.copy
                go_wp2_with fail
                refine (H2.out _ hs7).mono ?_
                rintro e w8 ⟨rfl, hs8⟩
                clear hs7 z0 z1 z2 z3 z4 z5 z6
                obtain ⟨z0, z1, z2, z3, z4, z5, z6⟩ := thy_cells hs8.st.copy
                go_wp2_with fail
                refine (H3.out _ hs8).mono ?_
                rintro e w9 ⟨rfl, hs9⟩
                clear hs8 z0 z1 z2 z3 z4 z5 z6
                obtain ⟨z0, z1, z2, z3, z4, z5, z6⟩ := thy_cells hs9.st.copy
                cases P1 with
                | false =>
                  go_wp2_with fail
                  refine (H4.out _ hs9).mono ?_
                  rintro e w10 ⟨rfl, hs10⟩
                  clear hs9 z0 z1 z2 z3 z4 z5 z6
                  obtain ⟨z0, z1, z2, z3, z4, z5, z6⟩ := thy_cells hs10.st.copy
                  go_wp2_with fail
                  go_meet
                  exact ⟨rfl, hs10⟩
                | true =>
                  cases P2 with
                  | false =>
                    go_wp2_with fail
                    refine (H4.out _ hs9).mono ?_
                    rintro e w10 ⟨rfl, hs10⟩
                    clear hs9 z0 z1 z2 z3 z4 z5 z6
                    obtain ⟨z0, z1, z2, z3, z4, z5, z6⟩ := thy_cells hs10.st.copy
                    go_wp2_with fail
                    refine (H5.out _ hs10).mono ?_
                    rintro e w11 ⟨rfl, hs11⟩
                    clear hs10 z0 z1 z2 z3 z4 z5 z6
                    obtain ⟨z0, z1, z2, z3, z4, z5, z6⟩ := thy_cells hs11.st.copy
                    go_wp2_with fail
                    go_meet
                    exact ⟨rfl, hs11⟩
                  | true =>
                    obtain rfl : P3 = true := O4.out rfl rfl
                    go_wp2_with fail
                    refine (H4.out _ hs9).mono ?_
                    rintro e w10 ⟨rfl, hs10⟩
                    clear hs9 z0 z1 z2 z3 z4 z5 z6
                    obtain ⟨z0, z1, z2, z3, z4, z5, z6⟩ := thy_cells hs10.st.copy
                    go_wp2_with fail
                    refine (H5.out _ hs10).mono ?_
                    rintro e w11 ⟨rfl, hs11⟩
                    clear hs10 z0 z1 z2 z3 z4 z5 z6
                    obtain ⟨z0, z1, z2, z3, z4, z5, z6⟩ := thy_cells hs11.st.copy
                    go_wp2_with fail
                    refine (H6.out _ hs11).mono ?_
                    rintro e w12 ⟨rfl, hs12⟩
                    clear hs11 z0 z1 z2 z3 z4 z5 z6
                    obtain ⟨z0, z1, z2, z3, z4, z5, z6⟩ := thy_cells hs12.st.copy
                    go_wp2_with fail
                    go_meet
                    exact ⟨rfl, hs12⟩
              case rest =>
                obtain ⟨rfl, hs13⟩ := hcut
                clear hs6 H1 H2 H3 H4 H5 H6 O4 HAW hal hbl hcl hca hcb hcc l1 l2 l3 la lb lc HNA HNB HNC HNM
                obtain ⟨z0, z1, z2, z3, z4, z5, z6⟩ := thy_cells hs13.st.copy
                have hs13d : St2 w r T l wc.drew := hs13.step (below_drew (Below.refl _ wc))
                have HAWs := Lib.hid (fun W (h : St2 w r T l W) => awake_any h)
                generalize hX : (P && Q) = X at H9
                go_upto_region 11 with fail
                cases P with
                | false =>
                  obtain rfl : X = false := hX.symm
                  clear hX
                  first
                  | (go_region_with (first
                      | (go_at_call 18
                         with_reducible refine (H7.out _ ?_).mono ?_
                         · assumption
                         rintro e wn ⟨rfl, hsn⟩
                         clear z0 z1 z2 z3 z4 z5 z6
                         obtain ⟨z0, z1, z2, z3, z4, z5, z6⟩ := thy_cells hsn.st.copy)
                      | (go_at_call 18
                         with_reducible refine (H8.out _ ?_).mono ?_
                         · assumption
                         rintro e wn ⟨rfl, hsn⟩
                         clear z0 z1 z2 z3 z4 z5 z6
                         obtain ⟨z0, z1, z2, z3, z4, z5, z6⟩ := thy_cells hsn.st.copy)
                      | (go_at_call 18
                         with_reducible refine (H9.out _ ?_).mono ?_
                         · assumption
                         rintro e wn ⟨rfl, hsn⟩
                         clear z0 z1 z2 z3 z4 z5 z6
                         obtain ⟨z0, z1, z2, z3, z4, z5, z6⟩ := thy_cells hsn.st.copy)
                      | (go_at_call 18
                         with_reducible refine (H10.out _ ?_).mono ?_
                         · assumption
                         rintro e wn ⟨rfl, hsn⟩
                         clear z0 z1 z2 z3 z4 z5 z6
                         obtain ⟨z0, z1, z2, z3, z4, z5, z6⟩ := thy_cells hsn.st.copy)
                      | (go_at_call 10
                         with_reducible refine (HAWs.out _ ?_).mono ?_
                         · assumption
                         rintro e wn ⟨rfl, hsn⟩
                         clear z0 z1 z2 z3 z4 z5 z6
                         obtain ⟨z0, z1, z2, z3, z4, z5, z6⟩ := thy_cells hsn.st.copy)))
                  | fail
                  all_goals (go_wp2_with fail; go_ret; exact ⟨rfl, (‹St2 w r T l _›).st.below⟩)
                | true =>
                  cases Q with
                  | false =>
                    obtain rfl : X = false := hX.symm
                    clear hX
                    first
                    | (go_region_with (first
                        | (go_at_call 18
                           with_reducible refine (H7.out _ ?_).mono ?_
                           · assumption
                           rintro e wn ⟨rfl, hsn⟩
                           clear z0 z1 z2 z3 z4 z5 z6
                           obtain ⟨z0, z1, z2, z3, z4, z5, z6⟩ := thy_cells hsn.st.copy)
                        | (go_at_call 18
                           with_reducible refine (H8.out _ ?_).mono ?_
                           · assumption
                           rintro e wn ⟨rfl, hsn⟩
                           clear z0 z1 z2 z3 z4 z5 z6
                           obtain ⟨z0, z1, z2, z3, z4, z5, z6⟩ := thy_cells hsn.st.copy)
                        | (go_at_call 18
                           with_reducible refine (H9.out _ ?_).mono ?_
                           · assumption
                           rintro e wn ⟨rfl, hsn⟩
                           clear z0 z1 z2 z3 z4 z5 z6
                           obtain ⟨z0, z1, z2, z3, z4, z5, z6⟩ := thy_cells hsn.st.copy)
                        | (go_at_call 18
                           with_reducible refine (H10.out _ ?_).mono ?_
                           · assumption
                           rintro e wn ⟨rfl, hsn⟩
                           clear z0 z1 z2 z3 z4 z5 z6
                           obtain ⟨z0, z1, z2, z3, z4, z5, z6⟩ := thy_cells hsn.st.copy)
                        | (go_at_call 18
                           with_reducible refine (H11.out _ ?_).mono ?_
                           · assumption
                           rintro e wn ⟨rfl, hsn⟩
                           clear z0 z1 z2 z3 z4 z5 z6
                           obtain ⟨z0, z1, z2, z3, z4, z5, z6⟩ := thy_cells hsn.st.copy)
                        | (go_at_call 10
                           with_reducible refine (HAWs.out _ ?_).mono ?_
                           · assumption
                           rintro e wn ⟨rfl, hsn⟩
                           clear z0 z1 z2 z3 z4 z5 z6
                           obtain ⟨z0, z1, z2, z3, z4, z5, z6⟩ := thy_cells hsn.st.copy)))
                    | fail
                    all_goals (go_wp2_with fail; go_ret; exact ⟨rfl, (‹St2 w r T l _›).st.below⟩)
                  | true =>
                    obtain rfl : X = true := hX.symm
                    clear hX
                    first
                    | (go_region_with (first
                        | (go_at_call 18
                           with_reducible refine (H7.out _ ?_).mono ?_
                           · assumption
                           rintro e wn ⟨rfl, hsn⟩
                           clear z0 z1 z2 z3 z4 z5 z6
                           obtain ⟨z0, z1, z2, z3, z4, z5, z6⟩ := thy_cells hsn.st.copy)
                        | (go_at_call 18
                           with_reducible refine (H8.out _ ?_).mono ?_
                           · assumption
                           rintro e wn ⟨rfl, hsn⟩
                           clear z0 z1 z2 z3 z4 z5 z6
                           obtain ⟨z0, z1, z2, z3, z4, z5, z6⟩ := thy_cells hsn.st.copy)
                        | (go_at_call 18
                           with_reducible refine (H9.out _ ?_).mono ?_
                           · assumption
                           rintro e wn ⟨rfl, hsn⟩
                           clear z0 z1 z2 z3 z4 z5 z6
                           obtain ⟨z0, z1, z2, z3, z4, z5, z6⟩ := thy_cells hsn.st.copy)
                        | (go_at_call 18
                           with_reducible refine (H10.out _ ?_).mono ?_
                           · assumption
                           rintro e wn ⟨rfl, hsn⟩
                           clear z0 z1 z2 z3 z4 z5 z6
                           obtain ⟨z0, z1, z2, z3, z4, z5, z6⟩ := thy_cells hsn.st.copy)
                        | (go_at_call 18
                           with_reducible refine (H11.out _ ?_).mono ?_
                           · assumption
                           rintro e wn ⟨rfl, hsn⟩
                           clear z0 z1 z2 z3 z4 z5 z6
                           obtain ⟨z0, z1, z2, z3, z4, z5, z6⟩ := thy_cells hsn.st.copy)
                        | (go_at_call 10
                           with_reducible refine (HAWs.out _ ?_).mono ?_
                           · assumption
                           rintro e wn ⟨rfl, hsn⟩
                           clear z0 z1 z2 z3 z4 z5 z6
                           obtain ⟨z0, z1, z2, z3, z4, z5, z6⟩ := thy_cells hsn.st.copy)))
                    | fail
                    all_goals (go_wp2_with fail; go_ret; exact ⟨rfl, (‹St2 w r T l _›).st.below⟩)
            · go_wp2_with fail
              refine hq.out.mono ?_
              rintro e w7 ⟨rfl, hs7⟩
              go_wp2
              go_ret
              exact ⟨rfl, hs7.st.below⟩
          · go_wp2_with fail
            refine hq.out.mono ?_
            rintro e w7 ⟨rfl, hs7⟩
            go_wp2
            go_ret
            exact ⟨rfl, hs7.st.below⟩
        · go_wp2_with fail
          refine hq.out.mono ?_
          rintro e w7 ⟨rfl, hs7⟩
          go_wp2
          go_ret
          exact ⟨rfl, hs7.st.below⟩
      · go_wp2_with fail
        refine hq.out.mono ?_
        rintro e w7 ⟨rfl, hs7⟩
        go_wp2
        go_ret
        exact ⟨rfl, hs7.st.below⟩
end Go.Proofs.Ythfomoigaoffgaa.So
