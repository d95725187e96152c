/- Walks of the laws of sort: SortNarrower. -/
import Derived.Test.YthfomoigaoffgaaGd4
import Derived.Test.YthfomoigaoffgaaStL
import Derived.Deep.RegionHeld3
import Derived.Deep.DrawnRows
namespace Go.Proofs.Ythfomoigaoffgaa.Nw
open Go Go.RowKit Go.Proofs.Ythfomoigaoffgaa.K Go.Proofs.Ythfomoigaoffgaa.G Go.Proofs.Ythfomoigaoffgaa.Ix Go.Proofs.Ythfomoigaoffgaa.O Go.Proofs.Ythfomoigaoffgaa.So Go.Proofs.Ythfomoigaoffgaa.Nd Go.Proofs.Ythfomoigaoffgaa.Gd
set_option linter.unusedSimpArgs false
set_option linter.unusedVariables false
attribute [local go_sem ↓] Go.wp_at_zero Go.wp_at_succ

/-- The operation at a place of a region, so written that it comes out as it stands there. -/
def nth {α : Type} : List α → Nat → Option α
  | [], _ => none
  | x :: _, 0 => some x
  | _ :: l, n + 1 => nth l n
theorem nth_list {α : Type} : ∀ (l : List α) (n : Nat), nth l n = l[n]?
  | [], _ => by simp [nth]
  | x :: l, 0 => by simp [nth]
  | x :: l, n + 1 => by simp [nth, nth_list l n]
theorem nth_at {ops : Array Oper} {i : Nat} {o : Oper} (h : nth ops.toList i = some o) : ops[i]? = some o := by
  rw [nth_list, Array.getElem?_toList] at h
  exact h
section
variable {P : Program} {ops : Array Oper} {Q : Exit → Act → World → Prop} {md : Region.Mode} {S : World → Prop}
/-- an operation that is wanted and yields, taken first -/
theorem take1 {i : Nat} {oi : Oper} {v : Value} {fuel : Nat} {listed : Array Bool} {a : Act} {w : World} (hi : nth ops.toList i = some oi)
    (hs : Region.noSelect ops = true) (hf : Region.free md ops listed i = true) (hr : (Region.ready md ops listed).contains i = true)
    (hQ : ∀ c a w, Q (.panic c) (a.put oi.dst v) w → Q (.panic c) a w) (hw : Region.wanted oi (yielded ops a.tmps) = true) (hS : S w) (hy : ∀ w, S w → (execOp a.eval oi).run P w = .ok (.value v) w)
    (h : wpAnyH P md ops Q S fuel (listed.setIfInBounds i true) (a.put oi.dst v) w) : wpAnyH P md ops Q S (fuel + 1) listed a w :=
  wpAnyH_take (nth_at hi) hs hf hr hQ (Or.inl ⟨hw, hy⟩) hS h
/-- an operation that is not wanted, taken first -/
theorem skip1 {i : Nat} {oi : Oper} {fuel : Nat} {listed : Array Bool} {a : Act} {w : World} (hi : nth ops.toList i = some oi)
    (hs : Region.noSelect ops = true) (hf : Region.free md ops listed i = true) (hr : (Region.ready md ops listed).contains i = true)
    (hQ : ∀ c a w, Q (.panic c) (a.put oi.dst undef) w → Q (.panic c) a w) (hw : Region.wanted oi (yielded ops a.tmps) = false) (hS : S w)
    (h : wpAnyH P md ops Q S fuel (listed.setIfInBounds i true) (a.put oi.dst undef) w) : wpAnyH P md ops Q S (fuel + 1) listed a w :=
  wpAnyH_take (nth_at hi) hs hf hr hQ (Or.inr ⟨hw, rfl⟩) hS h
end

theorem arsS_of {T : Thy} (h : fewB T = true) (hty : ∀ d ∈ T.tys, d.1.size ≤ maxLen) (har : ∀ a ∈ T.ars, a.1.size ≤ maxLen ∧ a.2.1.size ≤ maxLen ∧ ∀ s ∈ a.2.2, ∀ y ∈ s, y.size ≤ maxLen) : Ch.ArsS T := by
  refine ⟨hty, fun a ha => ?_, fewB_sups h⟩
  obtain ⟨h1, h2, h3⟩ := har a ha
  simp only [fewB, Bool.and_eq_true] at h
  have hf := List.all_eq_true.1 h.2.2 a ha
  simp only [fewAr, Bool.and_eq_true, decide_eq_true_eq] at hf
  exact ⟨h1, h2, by omega, fun s hs => ⟨by have := fewS_mem hf.2 hs; omega, h3 s hs⟩⟩
theorem few_cls {T : Thy} (h : fewB T = true) : T.cls.length ≤ 25 := by
  simp only [fewB, Bool.and_eq_true, decide_eq_true_eq] at h
  omega
/-- to a greater depth: the same error, and a type where there was one -/
theorem groundT_mono (cs : List Cl) (ts : List Td) (ars : List Arx) (s : List ByteArray) (d : Int) (h0 : 0 ≤ d) (h2 : d ≤ 2) : (groundT cs ts ars s (d + 1)).2 = (groundT cs ts ars s d).2 ∧ ((groundT cs ts ars s d).1.isSome = true → (groundT cs ts ars s (d + 1)).1.isSome = true) := by
  unfold groundT
  by_cases h1 : checkT cs ts ars = 0
  · simp only [if_neg (show ¬ (checkT cs ts ars ≠ 0) from fun e => e h1)]
    by_cases h3 : (normB cs s).2 = 0
    · simp only [if_neg (show ¬ ((normB cs s).2 ≠ 0) from fun e => e h3)]
      rw [if_neg (by omega), if_neg (by omega)]
      refine ⟨rfl, fun h => ?_⟩
      have e : (d + 1).toNat = d.toNat + 1 := by omega
      show (groundB cs ts ars (d + 1).toNat (normB cs s).1).isSome = true
      rw [e]
      exact ground_mono _ _ h
    · simp only [if_pos (show (normB cs s).2 ≠ 0 from h3)]
      exact ⟨trivial, fun h => h⟩
  · simp only [if_pos (show checkT cs ts ars ≠ 0 from h1)]
    exact ⟨trivial, fun h => h⟩
/-- what Ground answers, told apart -/
theorem gd_cases {d : Nat} {w : World} {R : Option Tr × Int} {e : Ending} {w' : World} (h : GdEnd d w R e w') : ∃ v0 v1 v2 v3 v4 : Value, e = .returned (.tuple #[.agg #[v0, v1, v2, v3, v4], .bool R.1.isSome, .int .i64 R.2]) ∧ (v0.oneCell' = true ∧ v1.oneCell' = true ∧ v2.oneCell' = true ∧ v3.oneCell' = true ∧ v4.oneCell' = true) ∧ Below w.heap.size w w' := by
  obtain ⟨h1, h2⟩ := h
  cases hR : R.1 with
  | none => rw [hR] at h1; exact ⟨_, _, _, _, _, h1, ⟨rfl, rfl, rfl, rfl, rfl⟩, h2⟩
  | some x =>
    rw [hR] at h1
    obtain ⟨nm, n, A, c, rfl, _⟩ := h1
    exact ⟨_, _, _, _, _, rfl, ⟨rfl, rfl, rfl, rfl, rfl⟩, h2⟩

theorem meet_len {cs : List Cl} {a b m : List ByteArray} (h : meetB cs a b = (m, 0)) : m.length ≤ 20 := by
  have h2 := (meet_ok (cs := cs) (a := a) (b := b) (by rw [h])).2.2
  have h1 := meet_ok (cs := cs) (a := a) (b := b) (by rw [h])
  unfold meetB at h
  rw [if_neg (fun e => e h1.1), if_neg (fun e => e h1.2.1)] at h
  by_cases hl : 20 < (leastB cs (a ++ b)).length
  · rw [if_pos hl] at h; exact absurd (show (5 : Int) = 0 from congrArg Prod.snd h) (by decide)
  · rw [if_neg hl] at h
    obtain rfl := congrArg Prod.fst h
    show (leastB cs (a ++ b)).length ≤ 20
    omega
theorem args_small {cs : List Cl} {ts : List Td} {ars : List Arx} {t : ByteArray} {a : List ByteArray} {x : List (List ByteArray)} (h : argsB cs ts ars t a = (x, 0)) (hs : ∀ c ∈ cs, c.1.size ≤ maxLen) : ∀ r ∈ x, r.length ≤ 20 ∧ ∀ y ∈ r, y.size ≤ maxLen := fun r hr => by
  obtain ⟨hck, _, hn, hl⟩ := args_ok h
  refine ⟨hl r hr, fun y hy => ?_⟩
  have hT := rt_of hck
  rcases hT.need t (leastB cs a) with ⟨e, _⟩ | ⟨n, l, _, e, _, hll, hg⟩
  · rw [hn] at e; cases e
  · rw [hn] at e
    cases e
    obtain ⟨j, hj⟩ := List.mem_iff_getElem?.1 hr
    have hjl := (List.getElem?_eq_some_iff.1 hj).1
    rw [hg j (by omega)] at hj
    obtain rfl := Option.some.inj hj
    obtain ⟨i, hi, e⟩ := has_at (known_iff.1 (least_known (hT.rows_known t (leastB cs a) j)) y hy)
    rw [← e]
    exact hs _ (List.getElem_mem hi)
theorem args_nil {cs : List Cl} {ts : List Td} {ars : List Arx} {t : ByteArray} {a : List ByteArray} {z : List (List ByteArray)} {e : Int} (h : argsB cs ts ars t a = (z, e)) (he : e ≠ 0) : z = [] := by
  unfold argsB at h
  by_cases h1 : checkT cs ts ars = 0
  · rw [if_neg (fun e => e h1)] at h
    by_cases h2 : (args? ts t).isNone = true
    · rw [if_pos h2] at h; exact (congrArg Prod.fst h).symm
    · rw [if_neg h2] at h
      by_cases h3 : (normB cs a).2 = 0
      · rw [if_neg (fun e => e h3)] at h
        cases hn : needB cs ts ars t (normB cs a).1 with
        | none => rw [hn] at h; exact (congrArg Prod.fst h).symm
        | some l =>
          rw [hn] at h
          dsimp only at h
          cases h4 : l.any (fun x => decide (20 < x.length)) with
          | true => rw [h4, if_pos rfl] at h; exact (congrArg Prod.fst h).symm
          | false => rw [h4, if_neg (by decide)] at h; exact absurd (congrArg Prod.snd h).symm he
      · rw [if_pos h3] at h; exact (congrArg Prod.fst h).symm
  · rw [if_pos h1] at h; exact (congrArg Prod.fst h).symm
/-- the state of a round -/
structure StN (w : World) (r : Raw) (T : Thy) (V W : World) : Prop where
  st : St w r T W
  bl : Below V.heap.size V W
theorem StN.step {w V W W' : World} {r : Raw} {T : Thy} (h : StN w r T V W) (hb : Below W.heap.size W W') : StN w r T V W' := ⟨h.st.step hb, h.bl.trans (hb.mono h.bl.size)⟩

set_option maxRecDepth 100000 in
set_option maxHeartbeats 16000000 in
theorem sortNarrower_calls (S Sa Sb : Nat → Prop) (r : Raw) (T : Thy) (t : ByteArray) (Aa Ab : Option Addr) (ca cb : Nat) (a b : List ByteArray) (dp : Nat) (w : World) (hT : ThyR S w r T) (ha : C str Sa w Aa a) (hca : a.length ≤ ca) (hb : C str Sb w Ab b) (hcb : b.length ≤ cb)
    (hal : ∀ x ∈ a, x.size ≤ maxLen) (hbl : ∀ x ∈ b, x.size ≤ maxLen) (hdp : dp ≤ 255) (hty : ∀ d ∈ T.tys, d.1.size ≤ maxLen) (har : ∀ a ∈ T.ars, a.1.size ≤ maxLen ∧ a.2.1.size ≤ maxLen ∧ ∀ s ∈ a.2.2, ∀ y ∈ s, y.size ≤ maxLen) :
    Calls Try.prog 7 #[thyV r T, .string t, .slice Aa a.length ca, .slice Ab b.length cb, .int .u8 (dp : Int)] w fun e w' => e = .returned (.bool true) ∧ Below w.heap.size w w' := by
  have hst := St.first w r T
  obtain ⟨z0, z1, z2, z3, z4, z5, z6⟩ := thy_cells hst.copy
  have hag := Try.isAgg29
  have hsz := Try.sizeOf29
  have hag2 := Try.isAgg51
  have hsz2 := Try.sizeOf51
  have HF := Lib.hid (few_calls S r T _ (hT.below hst.below))
  have HT := Lib.hid hT
  have HA := Lib.hid ha
  have HB := Lib.hid hb
  have HST := Lib.hid hst
  have HAW := Lib.hid (fun W => awake_calls W)
  have HCm := Lib.hid (fun c hc => (hT.small c hc).1)
  have l1 : a.length ≤ 9223372036854775807 := ha.len
  have l2 : b.length ≤ 9223372036854775807 := hb.len
  generalize hR : fewB T = R at HF
  have HR := Lib.hid hR
  have HTy := Lib.hid hty
  have HAr := Lib.hid har
  clear hT ha hb hst hR hty har
  unfold thyV
  go_enter Try.func7, Try.ntmps7
  go_wp2_with fail
  refine HF.out.mono ?_
  rintro e w1 ⟨rfl, hb1⟩
  have HST1 := Lib.hid (HST.out.step hb1)
  clear hb1 z0 z1 z2 z3 z4 z5 z6 HF HST
  cases R with
  | false =>
    go_wp2_with fail
    refine (HAW.out _).mono ?_
    rintro e w2 ⟨rfl, hb2⟩
    have HST2 := Lib.hid (HST1.out.step hb2)
    clear hb2
    go_wp2
    go_ret
    exact ⟨rfl, HST2.out.below⟩
  | true =>
    have HS := Lib.hid (arsS_of HR.out HTy.out HAr.out)
    have hcl := few_cls HR.out
    go_wp2_with fail
    refine (few2_calls (HA.out.below HST1.out.below) hca (HB.out.below HST1.out.below) hcb).mono ?_
    rintro e w2 ⟨rfl, hb2⟩
    have HST2 := Lib.hid (HST1.out.step hb2)
    clear hb2
    cases hfs : fewS [a, b] with
    | false =>
      clear hfs
      go_wp2_with fail
      refine (HAW.out _).mono ?_
      rintro e w3 ⟨rfl, hb3⟩
      have HST3 := Lib.hid (HST2.out.step hb3)
      clear hb3
      go_wp2
      go_ret
      exact ⟨rfl, HST3.out.below⟩
    | true =>
      have la : a.length ≤ 25 := fewS_mem hfs (by simp)
      have lb : b.length ≤ 25 := fewS_mem hfs (by simp)
      have HA1 := Lib.hid (fun W (h : St w r T W) => args_calls S Sa r T t Aa ca a W (HT.out.below h.below) HS.out (HA.out.below h.below) hca la hal)
      have HA2 := Lib.hid (fun W (h : St w r T W) => args_calls S Sb r T t Ab cb b W (HT.out.below h.below) HS.out (HB.out.below h.below) hcb lb hbl)
      have HA3 := Lib.hid (fun W (h : St w r T W) A c m hC hca hl hm => args_calls S Any r T t A c m W (HT.out.below h.below) HS.out hC hca hl hm)
      have HM1 := Lib.hid (fun W (h : St w r T W) => meet_calls S Sa Sb r T Aa Ab ca cb a b W (HT.out.below h.below) (HA.out.below h.below) hca (HB.out.below h.below) hcb (by omega) (by omega) hal hbl HS.out.2.2)
      have HM2 := Lib.hid (fun W (h : St w r T W) A1 A2 c1 c2 x y h1 h2 h3 h4 h5 h6 h7 h8 => meet_calls S Any Any r T A1 A2 c1 c2 x y W (HT.out.below h.below) h1 h2 h3 h4 h5 h6 h7 h8 HS.out.2.2)
      have HL1 := Lib.hid (fun W (h : St w r T W) => less_calls S Sa Sb r T Aa Ab ca cb a b W (HT.out.below h.below) (HA.out.below h.below) hca (HB.out.below h.below) hcb (by omega) (by omega) hal HS.out.2.2)
      have HL2 := Lib.hid (fun W (h : St w r T W) A1 A2 c1 c2 x y h1 h2 h3 h4 h5 h6 h7 => less_calls S Any Any r T A1 A2 c1 c2 x y W (HT.out.below h.below) h1 h2 h3 h4 h5 h6 h7 HS.out.2.2)
      have HG := Lib.hid (fun W (h : St w r T W) d => Ground_calls S Sa r T Aa ca a d W (HT.out.below h.below) HS.out hcl (HA.out.below h.below) hca la hal)
      have HST3 := Lib.hid HST2.out
      obtain ⟨z0, z1, z2, z3, z4, z5, z6⟩ := thy_cells HST3.out.copy
      obtain ⟨⟨x, ex⟩, hx⟩ : ∃ p, argsB T.cls T.tys T.ars t a = p := ⟨_, rfl⟩
      obtain ⟨⟨y, ey⟩, hy⟩ : ∃ p, argsB T.cls T.tys T.ars t b = p := ⟨_, rfl⟩
      obtain ⟨⟨m, em⟩, hm⟩ : ∃ p, meetB T.cls a b = p := ⟨_, rfl⟩
      rw [hx] at HA1
      rw [hy] at HA2
      rw [hm] at HM1
      have HX := Lib.hid hx
      have HY := Lib.hid hy
      have HM := Lib.hid hm
      unfold thyV thyC at HA1 HA2 HA3 HM1 HM2 HL1 HL2 HG
      clear hfs HST1 HST2 HR HTy HAr HT HA HB hx hy hm
      go_wp2_with fail
      refine (HA1.out _ HST3.out).mono ?_
      rintro e w3 ⟨A3, c3, rfl, hc3, hC3, hb3⟩
      have HST4 := Lib.hid (HST3.out.step hb3)
      have HC3 := Lib.hid hC3
      clear hb3 hC3 z0 z1 z2 z3 z4 z5 z6 HST3 HA1
      obtain ⟨z0, z1, z2, z3, z4, z5, z6⟩ := thy_cells HST4.out.copy
      go_wp2_with fail
      refine (HA2.out _ HST4.out).mono ?_
      rintro e w4 ⟨A4, c4, rfl, hc4, hC4, hb4⟩
      have HST5 := Lib.hid (HST4.out.step hb4)
      have HC4 := Lib.hid hC4
      have HC3' := Lib.hid (HC3.out.below hb4)
      clear hb4 hC4 z0 z1 z2 z3 z4 z5 z6 HST4 HA2 HC3
      obtain ⟨z0, z1, z2, z3, z4, z5, z6⟩ := thy_cells HST5.out.copy
      go_wp2_with fail
      refine (HM1.out _ HST5.out).mono ?_
      rintro e w5 ⟨v5, rfl, hm5, hb5⟩
      obtain ⟨A5, c5, rfl, hc5⟩ := hm5.form
      have HST6 := Lib.hid (HST5.out.step hb5)
      have HC5 := Lib.hid (hm5.read.2.2.mono (S' := Any) (fun _ _ => trivial))
      have HC4' := Lib.hid (HC4.out.below hb5)
      have HC3 := Lib.hid (HC3'.out.below hb5)
      clear hb5 hm5 z0 z1 z2 z3 z4 z5 z6 HST5 HM1 HC3' HC4
      by_cases hem : em = 0
      · subst hem
        by_cases hex : ex = 0
        · subst hex
          by_cases hey : ey = 0
          · subst hey
            have hlaw := narrower_law HX.out HY.out HM.out
            have hmo := meet_ok (cs := T.cls) (a := a) (b := b) (by rw [HM.out])
            have hms := meet_small HM.out hal hbl
            have hml : m.length ≤ 25 := by have := meet_len HM.out; omega
            have HXs := Lib.hid (args_small HX.out HCm.out)
            have HYs := Lib.hid (args_small HY.out HCm.out)
            obtain ⟨z0, z1, z2, z3, z4, z5, z6⟩ := thy_cells HST6.out.copy
            have HA4 := Lib.hid (HA3.out _ HST6.out A5 c5 m HC5.out hc5 hml hms.1)
            obtain ⟨⟨z, ez⟩, hz⟩ : ∃ p, argsB T.cls T.tys T.ars t m = p := ⟨_, rfl⟩
            rw [hz] at HA4 hlaw
            obtain ⟨hxy, hez, hzl, hlw⟩ := hlaw
            dsimp only at hez hzl hlw
            have HLw := Lib.hid hlw
            obtain ⟨nx, hnx⟩ : ∃ nx, x.length = nx := ⟨_, rfl⟩
            obtain ⟨nz, hnz⟩ : ∃ nz, z.length = nz := ⟨_, rfl⟩
            have hny : y.length = nx := by rw [← hxy, hnx]
            rw [hnz, hnx] at hzl
            have Hez := Lib.hid hez
            have Hzl := Lib.hid hzl
            have Hnx := Lib.hid hnx
            have Hny := Lib.hid hny
            have Hnz := Lib.hid hnz
            have Hz5 : Hid (ez ≠ 0 → nz = 0) := Lib.hid (fun e => by rw [← hnz, args_nil hz e]; rfl)
            clear HX HY HM hmo hms HA3 hz hlw hez hzl hxy hnx hny hnz
            go_wp2_with fail
            refine HA4.out.mono ?_
            rintro e w6 ⟨A6, c6, rfl, hc6, hC6, hb6⟩
            have hnzl : nz ≤ 9223372036854775807 := by have := hC6.len; rw [Hnz.out] at this; simpa [maxLen] using this
            have HST7 := Lib.hid (HST6.out.step hb6)
            have HC6 := Lib.hid hC6
            have HC3' := Lib.hid (HC3.out.below hb6)
            have HC4 := Lib.hid (HC4'.out.below hb6)
            clear hb6 hC6 z0 z1 z2 z3 z4 z5 z6 HST6 HA4 HC3 HC4' HC5
            have hnx := Hnx.out
            have hny := Hny.out
            have hnz := Hnz.out
            rcases Hez.out with rfl | rfl
            · have gz : ((nz : Int) != (nx : Int)) = false := by rw [Hzl.out rfl]; exact bne_self_eq_false _
              go_wp2_with fail
              clear hnx hny hnz
              go_loopg [102] nz (fun gg v wr => ∃ i : Nat, v = .int .i64 i ∧ i ≤ nz ∧ nz - i ≤ gg ∧ Hid (StN w r T w6 wr))
              case atStart => exact ⟨0, rfl, by omega, by omega, Lib.hid ⟨HST7.out, Below.refl _ _⟩⟩
              case round =>
                obtain ⟨i, rfl, hi, hg, HN⟩ := hrel
                by_cases hlt : i < nz
                · have hltz : (i : Int) < (nz : Int) := by omega
                  have hi0 : (0 : Int) ≤ (i : Int) := by omega
                  have Hlt := Lib.hid hlt
                  have hiz : i < z.length := by rw [Hnz.out]; exact hlt
                  obtain ⟨xi, yi, hxi, hyi, hmt, hls⟩ := HLw.out i _ (List.getElem?_eq_getElem hiz)
                  obtain ⟨hix, exi⟩ := List.getElem?_eq_some_iff.1 hxi
                  obtain ⟨hiy, eyi⟩ := List.getElem?_eq_some_iff.1 hyi
                  have hinx : (i : Int) < (nx : Int) := by have := Hnx.out; omega
                  obtain ⟨bx, ox, Ax, cx, ex1, lx, px, hcx, hCx⟩ := Ch.sl_at (HC3'.out.below HN.out.bl) i hix
                  obtain ⟨by_, oy, Ay, cy, ey1, ly, py, hcy, hCy⟩ := Ch.sl_at (HC4.out.below HN.out.bl) i hiy
                  obtain ⟨bz, oz, Az, cz, ez1, lz, pz, hcz, hCz⟩ := Ch.sl_at (HC6.out.below HN.out.bl) i hiz
                  have hsx := HXs.out _ (List.getElem_mem hix)
                  have hsy := HYs.out _ (List.getElem_mem hiy)
                  rw [exi] at px hcx hCx hsx
                  rw [eyi] at py hcy hCy hsy
                  generalize z[i]'hiz = zi at pz hcz hCz hmt
                  subst ex1; subst ey1; subst ez1
                  clear hxi hyi exi eyi
                  have HMt := Lib.hid (fun W (h : StN w r T wr W) => by
                    have q := HM2.out W h.st Ax Ay cx cy xi yi ((hCx.below h.bl).mono (fun _ _ => trivial)) hcx ((hCy.below h.bl).mono (fun _ _ => trivial)) hcy (by omega) (by omega) hsx.2 hsy.2
                    rw [hmt] at q
                    exact q.mono (R' := fun e W' => ∃ A9 c9, e = .returned (.tuple #[.slice A9 zi.length c9, .int .i64 0]) ∧ C str Any W' A9 zi ∧ StN w r T wr W') (fun e W' ⟨v, he, hm, hb⟩ => by
                      obtain ⟨A9, c9, rfl, hc9⟩ := hm.form
                      exact ⟨A9, c9, he, hm.read.2.2.mono (fun _ _ => trivial), h.step hb⟩))
                  have HEq := Lib.hid (fun V W A9 c9 (h9 : C str Any V A9 zi) (hv : StN w r T wr V) (h : StN w r T V W) => (equal_calls Any Any A9 Az c9 cz zi zi W (h9.below h.bl) ((hCz.below (hv.bl.trans (h.bl.mono hv.bl.size))).mono (fun _ _ => trivial))).mono (R' := fun e W' => e = .returned (.bool true) ∧ StN w r T V W') (fun e W' ⟨he, hb⟩ => ⟨by rw [he, decide_eq_true rfl], h.step hb⟩))
                  have HLa := Lib.hid (fun V W (h : StN w r T V W) => (HL1.out W h.st).mono (R' := fun e W' => e = .returned (.bool (lessB T.cls a b)) ∧ StN w r T V W') (fun e W' ⟨he, hb⟩ => ⟨he, h.step hb⟩))
                  have HLx := Lib.hid (fun V W (hv : StN w r T wr V) (h : StN w r T V W) => (HL2.out W h.st Ax Ay cx cy xi yi ((hCx.below (hv.bl.trans (h.bl.mono hv.bl.size))).mono (fun _ _ => trivial)) hcx ((hCy.below (hv.bl.trans (h.bl.mono hv.bl.size))).mono (fun _ _ => trivial)) hcy (by omega) (by omega) hsx.2).mono (R' := fun e W' => e = .returned (.bool (lessB T.cls xi yi)) ∧ StN w r T V W') (fun e W' ⟨he, hb⟩ => ⟨he, h.step hb⟩))
                  have HCl := Lib.hid (fun W (h : StN w r T wr W) => And.intro ((h.bl.cell (p := ⟨bx, ox + i, none⟩) lx).trans px) (And.intro ((h.bl.cell (p := ⟨by_, oy + i, none⟩) ly).trans py) ((h.bl.cell (p := ⟨bz, oz + i, none⟩) lz).trans pz)))
                  generalize lessB T.cls a b = P at HLa hls
                  generalize lessB T.cls xi yi = Q at HLx hls
                  have Hls := Lib.hid hls
                  have hs0 : StN w r T wr wr := ⟨HN.out.st, Below.refl _ _⟩
                  have hsd : StN w r T wr wr.drew := hs0.step (Rf.below_drew1 (Below.refl _ wr))
                  obtain ⟨z0, z1, z2, z3, z4, z5, z6⟩ := thy_cells hs0.st.copy
                  have HNB := Lib.hid HN.out.bl
                  clear hCx hCy hCz hsx hsy hmt hls hcx hcy hcz lx ly lz pz HN hs0 hiz hix hiy
                  go_wp2
                  go_region_held3 (fun W' => W'.cell? ⟨w.heap.size, 0, none⟩ = some (.string r.nm) ∧ W'.cell? ⟨w.heap.size, 1, none⟩ = some (.slice r.a1 T.cls.length r.c1) ∧ W'.cell? ⟨w.heap.size, 2, none⟩ = some (.slice r.a2 T.tys.length r.c2) ∧ W'.cell? ⟨w.heap.size, 3, none⟩ = some (.slice r.a3 T.ars.length r.c3) ∧
                      W'.cell? ⟨w.heap.size, 4, none⟩ = some (.slice r.a4 r.n4 r.c4) ∧ W'.cell? ⟨w.heap.size, 5, none⟩ = some (.slice r.a5 r.n5 r.c5) ∧ W'.cell? ⟨w.heap.size, 6, none⟩ = some (.slice r.a6 r.n6 r.c6) ∧
                      W'.cell? ⟨bx, ox + i, none⟩ = some (.slice Ax xi.length cx) ∧ W'.cell? ⟨by_, oy + i, none⟩ = some (.slice Ay yi.length cy)) (go_keep)
                    (first
                      | (go_at_call 13
                         (with_reducible refine (HMt.out _ ?_).mono ?_)
                         (assumption)
                         rintro e w9 ⟨A9, c9, rfl, hC9, hsn⟩
                         clear z0 z1 z2 z3 z4 z5 z6 px py
                         obtain ⟨z0, z1, z2, z3, z4, z5, z6⟩ := thy_cells hsn.st.copy
                         obtain ⟨px, py, _⟩ := HCl.out _ hsn))
                  all_goals
                    go_wp2_with fail
                    have hv := hsn
                    have hs9 : StN w r T w9 w9 := ⟨hv.st, Below.refl _ _⟩
                    have hsd9 : StN w r T w9 w9.drew := hs9.step (Rf.below_drew1 (Below.refl _ w9))
                    have HE9 := Lib.hid (fun W h => HEq.out w9 W A9 c9 hC9 hv h)
                    have HLa9 := Lib.hid (fun W h => HLa.out w9 W h)
                    have HLx9 := Lib.hid (fun W h => HLx.out w9 W hv h)
                    have HCl9 := Lib.hid (fun W (h : StN w r T w9 W) => HCl.out W ⟨h.st, hv.bl.trans (h.bl.mono hv.bl.size)⟩)
                    have HNB9 := Lib.hid (HNB.out.trans (hv.bl.mono HNB.out.size))
                    obtain ⟨_, _, pz⟩ := HCl.out _ hv
                    clear HEq HLa HLx HCl HNB hsn hsd HMt hv hC9
                    cases P with
                    | false =>
                      refine wp_region_held_drew (S := fun W' => W'.cell? ⟨w.heap.size, 0, none⟩ = some (.string r.nm) ∧ W'.cell? ⟨w.heap.size, 1, none⟩ = some (.slice r.a1 T.cls.length r.c1) ∧ W'.cell? ⟨w.heap.size, 2, none⟩ = some (.slice r.a2 T.tys.length r.c2) ∧ W'.cell? ⟨w.heap.size, 3, none⟩ = some (.slice r.a3 T.ars.length r.c3) ∧
                          W'.cell? ⟨w.heap.size, 4, none⟩ = some (.slice r.a4 r.n4 r.c4) ∧ W'.cell? ⟨w.heap.size, 5, none⟩ = some (.slice r.a5 r.n5 r.c5) ∧ W'.cell? ⟨w.heap.size, 6, none⟩ = some (.slice r.a6 r.n6 r.c6) ∧
                          W'.cell? ⟨bx, ox + i, none⟩ = some (.slice Ax xi.length cx) ∧ W'.cell? ⟨by_, oy + i, none⟩ = some (.slice Ay yi.length cy) ∧ W'.cell? ⟨bz, oz + i, none⟩ = some (.slice Az zi.length cz)) (by kernel_rfl) (by first | (dsimp only; go_keep) | go_keep) (fun hHeld => ?_)
                      refine take1 (i := 0) (v := ?_) rfl (by kernel_rfl) (by kernel_rfl) (by kernel_rfl) (fun _ _ _ h => h) (by rfl) (by assumption) ?_ ?_
                      rotate_left
                      · (intro w hSw; (try dsimp only at hSw); go_simp) <;> with_reducible rfl
                      try simp only [Act.put, List.setIfInBounds_toArray, List.set_cons_zero, List.set_cons_succ]
                      refine take1 (i := 1) (v := ?_) rfl (by kernel_rfl) (by kernel_rfl) (by kernel_rfl) (fun _ _ _ h => h) (by rfl) (by assumption) ?_ ?_
                      rotate_left
                      · (intro w hSw; (try dsimp only at hSw); go_simp) <;> with_reducible rfl
                      try simp only [Act.put, List.setIfInBounds_toArray, List.set_cons_zero, List.set_cons_succ]
                      refine take1 (i := 2) (v := ?_) rfl (by kernel_rfl) (by kernel_rfl) (by kernel_rfl) (fun _ _ _ h => h) (by rfl) (by assumption) ?_ ?_
                      rotate_left
                      · (intro w hSw; (try dsimp only at hSw); go_simp) <;> with_reducible rfl
                      try simp only [Act.put, List.setIfInBounds_toArray, List.set_cons_zero, List.set_cons_succ]
                      refine take1 (i := 3) (v := ?_) rfl (by kernel_rfl) (by kernel_rfl) (by kernel_rfl) (fun _ _ _ h => h) (by rfl) (by assumption) ?_ ?_
                      rotate_left
                      · (intro w hSw; (try dsimp only at hSw); go_simp) <;> with_reducible rfl
                      try simp only [Act.put, List.setIfInBounds_toArray, List.set_cons_zero, List.set_cons_succ]
                      refine take1 (i := 4) (v := ?_) rfl (by kernel_rfl) (by kernel_rfl) (by kernel_rfl) (fun _ _ _ h => h) (by rfl) (by assumption) ?_ ?_
                      rotate_left
                      · (intro w hSw; (try dsimp only at hSw); go_simp) <;> with_reducible rfl
                      try simp only [Act.put, List.setIfInBounds_toArray, List.set_cons_zero, List.set_cons_succ]
                      refine take1 (i := 5) (v := ?_) rfl (by kernel_rfl) (by kernel_rfl) (by kernel_rfl) (fun _ _ _ h => h) (by rfl) (by assumption) ?_ ?_
                      rotate_left
                      · (intro w hSw; (try dsimp only at hSw); go_simp) <;> with_reducible rfl
                      try simp only [Act.put, List.setIfInBounds_toArray, List.set_cons_zero, List.set_cons_succ]
                      refine take1 (i := 6) (v := ?_) rfl (by kernel_rfl) (by kernel_rfl) (by kernel_rfl) (fun _ _ _ h => h) (by rfl) (by assumption) ?_ ?_
                      rotate_left
                      · (intro w hSw; (try dsimp only at hSw); go_simp) <;> with_reducible rfl
                      try simp only [Act.put, List.setIfInBounds_toArray, List.set_cons_zero, List.set_cons_succ]
                      refine take1 (i := 7) (v := ?_) rfl (by kernel_rfl) (by kernel_rfl) (by kernel_rfl) (fun _ _ _ h => h) (by rfl) (by assumption) ?_ ?_
                      rotate_left
                      · (intro w hSw; (try dsimp only at hSw); go_simp) <;> with_reducible rfl
                      try simp only [Act.put, List.setIfInBounds_toArray, List.set_cons_zero, List.set_cons_succ]
                      refine wpAnyH_ready (rs := [8]) (by kernel_rfl) (by simp) ?_
                      refine AllReadyH.cons (nth_at rfl) (fun K hK => ?_) AllReadyH.nil
                      go_simp
                      go_at_call 15
                      (with_reducible refine (HE9.out _ ?_).mono ?_)
                      (assumption)
                      rintro e wn ⟨rfl, hsn⟩
                      clear z0 z1 z2 z3 z4 z5 z6 px py pz
                      obtain ⟨z0, z1, z2, z3, z4, z5, z6⟩ := thy_cells hsn.st.copy
                      obtain ⟨px, py, pz⟩ := HCl9.out _ hsn
                      go_wp2_with fail
                      refine hK.out _ _ (by first | (dsimp only; go_keep) | go_keep) (fun hHeld => ?_)
                      clear hK K
                      try simp only [Act.put, List.setIfInBounds_toArray, List.set_cons_zero, List.set_cons_succ]
                      refine take1 (i := 9) (v := ?_) rfl (by kernel_rfl) (by kernel_rfl) (by kernel_rfl) (fun _ _ _ h => h) (by rfl) (by assumption) ?_ ?_
                      rotate_left
                      · (intro w hSw; (try dsimp only at hSw); go_simp) <;> with_reducible rfl
                      try simp only [Act.put, List.setIfInBounds_toArray, List.set_cons_zero, List.set_cons_succ]
                      refine take1 (i := 10) (v := ?_) rfl (by kernel_rfl) (by kernel_rfl) (by kernel_rfl) (fun _ _ _ h => h) (by rfl) (by assumption) ?_ ?_
                      rotate_left
                      · (intro w hSw; (try dsimp only at hSw); go_simp) <;> with_reducible rfl
                      try simp only [Act.put, List.setIfInBounds_toArray, List.set_cons_zero, List.set_cons_succ]
                      refine take1 (i := 11) (v := ?_) rfl (by kernel_rfl) (by kernel_rfl) (by kernel_rfl) (fun _ _ _ h => h) (by rfl) (by assumption) ?_ ?_
                      rotate_left
                      · (intro w hSw; (try dsimp only at hSw); go_simp) <;> with_reducible rfl
                      try simp only [Act.put, List.setIfInBounds_toArray, List.set_cons_zero, List.set_cons_succ]
                      refine take1 (i := 12) (v := ?_) rfl (by kernel_rfl) (by kernel_rfl) (by kernel_rfl) (fun _ _ _ h => h) (by rfl) (by assumption) ?_ ?_
                      rotate_left
                      · (intro w hSw; (try dsimp only at hSw); go_simp) <;> with_reducible rfl
                      try simp only [Act.put, List.setIfInBounds_toArray, List.set_cons_zero, List.set_cons_succ]
                      refine take1 (i := 13) (v := ?_) rfl (by kernel_rfl) (by kernel_rfl) (by kernel_rfl) (fun _ _ _ h => h) (by rfl) (by assumption) ?_ ?_
                      rotate_left
                      · (intro w hSw; (try dsimp only at hSw); go_simp) <;> with_reducible rfl
                      try simp only [Act.put, List.setIfInBounds_toArray, List.set_cons_zero, List.set_cons_succ]
                      refine take1 (i := 14) (v := ?_) rfl (by kernel_rfl) (by kernel_rfl) (by kernel_rfl) (fun _ _ _ h => h) (by rfl) (by assumption) ?_ ?_
                      rotate_left
                      · (intro w hSw; (try dsimp only at hSw); go_simp) <;> with_reducible rfl
                      try simp only [Act.put, List.setIfInBounds_toArray, List.set_cons_zero, List.set_cons_succ]
                      refine wpAnyH_ready (rs := [15]) (by kernel_rfl) (by simp) ?_
                      refine AllReadyH.cons (nth_at rfl) (fun K hK => ?_) AllReadyH.nil
                      go_simp
                      go_at_call 18
                      (with_reducible refine (HLa9.out _ ?_).mono ?_)
                      (assumption)
                      rintro e wn ⟨rfl, hsn⟩
                      clear z0 z1 z2 z3 z4 z5 z6 px py pz
                      obtain ⟨z0, z1, z2, z3, z4, z5, z6⟩ := thy_cells hsn.st.copy
                      obtain ⟨px, py, pz⟩ := HCl9.out _ hsn
                      go_wp2_with fail
                      refine hK.out _ _ (by first | (dsimp only; go_keep) | go_keep) (fun hHeld => ?_)
                      clear hK K
                      try simp only [Act.put, List.setIfInBounds_toArray, List.set_cons_zero, List.set_cons_succ]
                      refine take1 (i := 16) (v := ?_) rfl (by kernel_rfl) (by kernel_rfl) (by kernel_rfl) (fun _ _ _ h => h) (by rfl) (by assumption) ?_ ?_
                      rotate_left
                      · (intro w hSw; (try dsimp only at hSw); go_simp) <;> with_reducible rfl
                      try simp only [Act.put, List.setIfInBounds_toArray, List.set_cons_zero, List.set_cons_succ]
                      refine skip1 (i := 17) rfl (by kernel_rfl) (by kernel_rfl) (by kernel_rfl) (fun _ _ _ h => h) (by rfl) (by assumption) ?_
                      try simp only [Act.put, List.setIfInBounds_toArray, List.set_cons_zero, List.set_cons_succ]
                      refine skip1 (i := 18) rfl (by kernel_rfl) (by kernel_rfl) (by kernel_rfl) (fun _ _ _ h => h) (by rfl) (by assumption) ?_
                      try simp only [Act.put, List.setIfInBounds_toArray, List.set_cons_zero, List.set_cons_succ]
                      refine skip1 (i := 19) rfl (by kernel_rfl) (by kernel_rfl) (by kernel_rfl) (fun _ _ _ h => h) (by rfl) (by assumption) ?_
                      try simp only [Act.put, List.setIfInBounds_toArray, List.set_cons_zero, List.set_cons_succ]
                      refine skip1 (i := 20) rfl (by kernel_rfl) (by kernel_rfl) (by kernel_rfl) (fun _ _ _ h => h) (by rfl) (by assumption) ?_
                      try simp only [Act.put, List.setIfInBounds_toArray, List.set_cons_zero, List.set_cons_succ]
                      refine skip1 (i := 21) rfl (by kernel_rfl) (by kernel_rfl) (by kernel_rfl) (fun _ _ _ h => h) (by rfl) (by assumption) ?_
                      try simp only [Act.put, List.setIfInBounds_toArray, List.set_cons_zero, List.set_cons_succ]
                      refine skip1 (i := 22) rfl (by kernel_rfl) (by kernel_rfl) (by kernel_rfl) (fun _ _ _ h => h) (by rfl) (by assumption) ?_
                      try simp only [Act.put, List.setIfInBounds_toArray, List.set_cons_zero, List.set_cons_succ]
                      refine skip1 (i := 23) rfl (by kernel_rfl) (by kernel_rfl) (by kernel_rfl) (fun _ _ _ h => h) (by rfl) (by assumption) ?_
                      try simp only [Act.put, List.setIfInBounds_toArray, List.set_cons_zero, List.set_cons_succ]
                      refine skip1 (i := 24) rfl (by kernel_rfl) (by kernel_rfl) (by kernel_rfl) (fun _ _ _ h => h) (by rfl) (by assumption) ?_
                      try simp only [Act.put, List.setIfInBounds_toArray, List.set_cons_zero, List.set_cons_succ]
                      refine skip1 (i := 25) rfl (by kernel_rfl) (by kernel_rfl) (by kernel_rfl) (fun _ _ _ h => h) (by rfl) (by assumption) ?_
                      try simp only [Act.put, List.setIfInBounds_toArray, List.set_cons_zero, List.set_cons_succ]
                      refine skip1 (i := 26) rfl (by kernel_rfl) (by kernel_rfl) (by kernel_rfl) (fun _ _ _ h => h) (by rfl) (by assumption) ?_
                      try simp only [Act.put, List.setIfInBounds_toArray, List.set_cons_zero, List.set_cons_succ]
                      refine skip1 (i := 27) rfl (by kernel_rfl) (by kernel_rfl) (by kernel_rfl) (fun _ _ _ h => h) (by rfl) (by assumption) ?_
                      try simp only [Act.put, List.setIfInBounds_toArray, List.set_cons_zero, List.set_cons_succ]
                      refine take1 (i := 28) (v := ?_) rfl (by kernel_rfl) (by kernel_rfl) (by kernel_rfl) (fun _ _ _ h => h) (by rfl) (by assumption) ?_ ?_
                      rotate_left
                      · (intro w hSw; (try dsimp only at hSw); go_simp) <;> with_reducible rfl
                      try simp only [Act.put, List.setIfInBounds_toArray, List.set_cons_zero, List.set_cons_succ]
                      refine take1 (i := 29) (v := ?_) rfl (by kernel_rfl) (by kernel_rfl) (by kernel_rfl) (fun _ _ _ h => h) (by rfl) (by assumption) ?_ ?_
                      rotate_left
                      · (intro w hSw; (try dsimp only at hSw); go_simp) <;> with_reducible rfl
                      try simp only [Act.put, List.setIfInBounds_toArray, List.set_cons_zero, List.set_cons_succ]
                      refine wpAnyH_done (by kernel_rfl) ?_ _
                      all_goals
                        go_wp2_with fail
                        go_roundg (nz - (i + 1))
                        case measure => omega
                        case rel => exact ⟨i + 1, by go_num, Hlt.out, Nat.le_refl _, Lib.hid ⟨(‹StN w r T w9 _›).st, HNB9.out.trans ((‹StN w r T w9 _›).bl.mono HNB9.out.size)⟩⟩
                    | true =>
                      obtain rfl : Q = true := Hls.out rfl
                      go_region_held3 (fun W' => W'.cell? ⟨w.heap.size, 0, none⟩ = some (.string r.nm) ∧ W'.cell? ⟨w.heap.size, 1, none⟩ = some (.slice r.a1 T.cls.length r.c1) ∧ W'.cell? ⟨w.heap.size, 2, none⟩ = some (.slice r.a2 T.tys.length r.c2) ∧ W'.cell? ⟨w.heap.size, 3, none⟩ = some (.slice r.a3 T.ars.length r.c3) ∧
                          W'.cell? ⟨w.heap.size, 4, none⟩ = some (.slice r.a4 r.n4 r.c4) ∧ W'.cell? ⟨w.heap.size, 5, none⟩ = some (.slice r.a5 r.n5 r.c5) ∧ W'.cell? ⟨w.heap.size, 6, none⟩ = some (.slice r.a6 r.n6 r.c6) ∧
                          W'.cell? ⟨bx, ox + i, none⟩ = some (.slice Ax xi.length cx) ∧ W'.cell? ⟨by_, oy + i, none⟩ = some (.slice Ay yi.length cy) ∧ W'.cell? ⟨bz, oz + i, none⟩ = some (.slice Az zi.length cz)) (go_keep)
                        (first
                          | (go_at_call 15
                             (with_reducible refine (HE9.out _ ?_).mono ?_)
                             (assumption)
                             rintro e wn ⟨rfl, hsn⟩
                             clear z0 z1 z2 z3 z4 z5 z6 px py pz
                             obtain ⟨z0, z1, z2, z3, z4, z5, z6⟩ := thy_cells hsn.st.copy
                             obtain ⟨px, py, pz⟩ := HCl9.out _ hsn)
                          | (go_at_call_of 18 (Value.slice Aa a.length ca)
                             (with_reducible refine (HLa9.out _ ?_).mono ?_)
                             (assumption)
                             rintro e wn ⟨rfl, hsn⟩
                             clear z0 z1 z2 z3 z4 z5 z6 px py pz
                             obtain ⟨z0, z1, z2, z3, z4, z5, z6⟩ := thy_cells hsn.st.copy
                             obtain ⟨px, py, pz⟩ := HCl9.out _ hsn)
                          | (go_at_call 18
                             (with_reducible refine (HLx9.out _ ?_).mono ?_)
                             (assumption)
                             rintro e wn ⟨rfl, hsn⟩
                             clear z0 z1 z2 z3 z4 z5 z6 px py pz
                             obtain ⟨z0, z1, z2, z3, z4, z5, z6⟩ := thy_cells hsn.st.copy
                             obtain ⟨px, py, pz⟩ := HCl9.out _ hsn))
                      all_goals
                        go_wp2_with fail
                        go_roundg (nz - (i + 1))
                        case measure => omega
                        case rel => exact ⟨i + 1, by go_num, Hlt.out, Nat.le_refl _, Lib.hid ⟨(‹StN w r T w9 _›).st, HNB9.out.trans ((‹StN w r T w9 _›).bl.mono HNB9.out.size)⟩⟩
                · have hltz : ¬ (i : Int) < (nz : Int) := by omega
                  have HSTf := Lib.hid HN.out.st
                  go_upto_region 17 with fail
                  have hd0 : (0 : Int) ≤ (dp : Int) % 3 := by omega
                  have hd2 : (dp : Int) % 3 ≤ 2 := by omega
                  obtain ⟨hm1, hm2⟩ := groundT_mono T.cls T.tys T.ars a ((dp : Int) % 3) hd0 hd2
                  have HG1 := Lib.hid (HG.out _ HSTf.out ((dp : Int) % 3))
                  have HG2 := Lib.hid (fun W h => HG.out W h ((dp : Int) % 3 + 1))
                  obtain ⟨⟨o1, e1⟩, hG1⟩ : ∃ p, groundT T.cls T.tys T.ars a ((dp : Int) % 3) = p := ⟨_, rfl⟩
                  obtain ⟨⟨o2, e2⟩, hG2⟩ : ∃ p, groundT T.cls T.tys T.ars a ((dp : Int) % 3 + 1) = p := ⟨_, rfl⟩
                  rw [hG1] at HG1 hm1 hm2
                  simp only [hG2] at HG2 hm1 hm2
                  obtain rfl : e2 = e1 := hm1
                  have Hm2 := Lib.hid hm2
                  obtain ⟨z0, z1, z2, z3, z4, z5, z6⟩ := thy_cells HSTf.out.copy
                  clear hm2 hG1 hG2
                  go_wp2_with fail
                  refine HG1.out.mono ?_
                  rintro e wA ⟨heA, hbA⟩
                  have HSTg := Lib.hid (HSTf.out.step hbA)
                  clear hbA z0 z1 z2 z3 z4 z5 z6
                  cases o1 with
                  | none =>
                    obtain rfl := heA
                    have HSTh := Lib.hid (HSTg.out.step ((Below.refl _ wA).alloc (Nat.le_refl _) (.cells #[.int .i64 0, .string ⟨#[]⟩, .int .i64 0, .slice none 0 0, .slice none 0 0] 51)))
                    obtain ⟨z0, z1, z2, z3, z4, z5, z6⟩ := thy_cells HSTh.out.copy
                    go_wp2_with fail
                    refine (HG2.out _ HSTh.out).mono ?_
                    rintro e wB ⟨heB, hbB⟩
                    have HSTi := Lib.hid (HSTh.out.step hbB)
                    clear hbB z0 z1 z2 z3 z4 z5 z6
                    cases o2 with
                    | none =>
                      obtain rfl := heB
                      go_wp2_with fail
                      refine (HAW.out _).mono ?_
                      rintro e wC ⟨rfl, hbC⟩
                      have HSTj := Lib.hid ((HSTi.out.step ((Below.refl _ wB).alloc (Nat.le_refl _) _)).step hbC)
                      clear hbC
                      go_wp2
                      go_ret
                      exact ⟨rfl, HSTj.out.below⟩
                    | some x2 =>
                      obtain ⟨nmB, nB, AB, cB, rfl, _⟩ := heB
                      go_wp2_with fail
                      refine (HAW.out _).mono ?_
                      rintro e wC ⟨rfl, hbC⟩
                      have HSTj := Lib.hid ((HSTi.out.step ((Below.refl _ wB).alloc (Nat.le_refl _) _)).step hbC)
                      clear hbC
                      go_wp2
                      go_ret
                      exact ⟨rfl, HSTj.out.below⟩
                  | some x1 =>
                    obtain ⟨nmA, nA, AA, cA, rfl, _⟩ := heA
                    have HSTh := Lib.hid (HSTg.out.step ((Below.refl _ wA).alloc (Nat.le_refl _) (.cells #[.int .i64 1, .string nmA, .int .i64 0, .slice none 0 0, .slice AA nA cA] 51)))
                    obtain ⟨z0, z1, z2, z3, z4, z5, z6⟩ := thy_cells HSTh.out.copy
                    go_wp2_with fail
                    refine (HG2.out _ HSTh.out).mono ?_
                    rintro e wB ⟨heB, hbB⟩
                    have HSTi := Lib.hid (HSTh.out.step hbB)
                    clear hbB z0 z1 z2 z3 z4 z5 z6
                    cases o2 with
                    | none => exact absurd (Hm2.out rfl) (by decide)
                    | some x2 =>
                      obtain ⟨nmB, nB, AB, cB, rfl, _⟩ := heB
                      go_wp2_with fail
                      refine (HAW.out _).mono ?_
                      rintro e wC ⟨rfl, hbC⟩
                      have HSTj := Lib.hid ((HSTi.out.step ((Below.refl _ wB).alloc (Nat.le_refl _) _)).step hbC)
                      clear hbC
                      go_wp2
                      go_ret
                      exact ⟨rfl, HSTj.out.below⟩
            · have hz0 := Hz5.out (by decide)
              go_wp2_with fail
              clear hnx hny hnz
              go_loopg [102] nz (fun gg v wr => ∃ i : Nat, v = .int .i64 i ∧ i ≤ nz ∧ nz - i ≤ gg ∧ Hid (StN w r T w6 wr))
              case atStart => exact ⟨0, rfl, by omega, by omega, Lib.hid ⟨HST7.out, Below.refl _ _⟩⟩
              case round =>
                obtain ⟨i, rfl, hi, hg, HN⟩ := hrel
                by_cases hlt : i < nz
                · exfalso; omega
                · have hltz : ¬ (i : Int) < (nz : Int) := by omega
                  have HSTf := Lib.hid HN.out.st
                  go_upto_region 17 with fail
                  have hd0 : (0 : Int) ≤ (dp : Int) % 3 := by omega
                  have hd2 : (dp : Int) % 3 ≤ 2 := by omega
                  obtain ⟨hm1, hm2⟩ := groundT_mono T.cls T.tys T.ars a ((dp : Int) % 3) hd0 hd2
                  have HG1 := Lib.hid (HG.out _ HSTf.out ((dp : Int) % 3))
                  have HG2 := Lib.hid (fun W h => HG.out W h ((dp : Int) % 3 + 1))
                  obtain ⟨⟨o1, e1⟩, hG1⟩ : ∃ p, groundT T.cls T.tys T.ars a ((dp : Int) % 3) = p := ⟨_, rfl⟩
                  obtain ⟨⟨o2, e2⟩, hG2⟩ : ∃ p, groundT T.cls T.tys T.ars a ((dp : Int) % 3 + 1) = p := ⟨_, rfl⟩
                  rw [hG1] at HG1 hm1 hm2
                  simp only [hG2] at HG2 hm1 hm2
                  obtain rfl : e2 = e1 := hm1
                  have Hm2 := Lib.hid hm2
                  obtain ⟨z0, z1, z2, z3, z4, z5, z6⟩ := thy_cells HSTf.out.copy
                  clear hm2 hG1 hG2
                  go_wp2_with fail
                  refine HG1.out.mono ?_
                  rintro e wA ⟨heA, hbA⟩
                  have HSTg := Lib.hid (HSTf.out.step hbA)
                  clear hbA z0 z1 z2 z3 z4 z5 z6
                  cases o1 with
                  | none =>
                    obtain rfl := heA
                    have HSTh := Lib.hid (HSTg.out.step ((Below.refl _ wA).alloc (Nat.le_refl _) (.cells #[.int .i64 0, .string ⟨#[]⟩, .int .i64 0, .slice none 0 0, .slice none 0 0] 51)))
                    obtain ⟨z0, z1, z2, z3, z4, z5, z6⟩ := thy_cells HSTh.out.copy
                    go_wp2_with fail
                    refine (HG2.out _ HSTh.out).mono ?_
                    rintro e wB ⟨heB, hbB⟩
                    have HSTi := Lib.hid (HSTh.out.step hbB)
                    clear hbB z0 z1 z2 z3 z4 z5 z6
                    cases o2 with
                    | none =>
                      obtain rfl := heB
                      go_wp2_with fail
                      refine (HAW.out _).mono ?_
                      rintro e wC ⟨rfl, hbC⟩
                      have HSTj := Lib.hid ((HSTi.out.step ((Below.refl _ wB).alloc (Nat.le_refl _) _)).step hbC)
                      clear hbC
                      go_wp2
                      go_ret
                      exact ⟨rfl, HSTj.out.below⟩
                    | some x2 =>
                      obtain ⟨nmB, nB, AB, cB, rfl, _⟩ := heB
                      go_wp2_with fail
                      refine (HAW.out _).mono ?_
                      rintro e wC ⟨rfl, hbC⟩
                      have HSTj := Lib.hid ((HSTi.out.step ((Below.refl _ wB).alloc (Nat.le_refl _) _)).step hbC)
                      clear hbC
                      go_wp2
                      go_ret
                      exact ⟨rfl, HSTj.out.below⟩
                  | some x1 =>
                    obtain ⟨nmA, nA, AA, cA, rfl, _⟩ := heA
                    have HSTh := Lib.hid (HSTg.out.step ((Below.refl _ wA).alloc (Nat.le_refl _) (.cells #[.int .i64 1, .string nmA, .int .i64 0, .slice none 0 0, .slice AA nA cA] 51)))
                    obtain ⟨z0, z1, z2, z3, z4, z5, z6⟩ := thy_cells HSTh.out.copy
                    go_wp2_with fail
                    refine (HG2.out _ HSTh.out).mono ?_
                    rintro e wB ⟨heB, hbB⟩
                    have HSTi := Lib.hid (HSTh.out.step hbB)
                    clear hbB z0 z1 z2 z3 z4 z5 z6
                    cases o2 with
                    | none => exact absurd (Hm2.out rfl) (by decide)
                    | some x2 =>
                      obtain ⟨nmB, nB, AB, cB, rfl, _⟩ := heB
                      go_wp2_with fail
                      refine (HAW.out _).mono ?_
                      rintro e wC ⟨rfl, hbC⟩
                      have HSTj := Lib.hid ((HSTi.out.step ((Below.refl _ wB).alloc (Nat.le_refl _) _)).step hbC)
                      clear hbC
                      go_wp2
                      go_ret
                      exact ⟨rfl, HSTj.out.below⟩
          · have gE : (ey == 0) = false := beq_eq_false_iff_ne.2 hey
            have HSTf := Lib.hid HST6.out
            clear hey
            go_upto_region 17 with fail
            have hd0 : (0 : Int) ≤ (dp : Int) % 3 := by omega
            have hd2 : (dp : Int) % 3 ≤ 2 := by omega
            obtain ⟨hm1, hm2⟩ := groundT_mono T.cls T.tys T.ars a ((dp : Int) % 3) hd0 hd2
            have HG1 := Lib.hid (HG.out _ HSTf.out ((dp : Int) % 3))
            have HG2 := Lib.hid (fun W h => HG.out W h ((dp : Int) % 3 + 1))
            obtain ⟨⟨o1, e1⟩, hG1⟩ : ∃ p, groundT T.cls T.tys T.ars a ((dp : Int) % 3) = p := ⟨_, rfl⟩
            obtain ⟨⟨o2, e2⟩, hG2⟩ : ∃ p, groundT T.cls T.tys T.ars a ((dp : Int) % 3 + 1) = p := ⟨_, rfl⟩
            rw [hG1] at HG1 hm1 hm2
            simp only [hG2] at HG2 hm1 hm2
            obtain rfl : e2 = e1 := hm1
            have Hm2 := Lib.hid hm2
            obtain ⟨z0, z1, z2, z3, z4, z5, z6⟩ := thy_cells HSTf.out.copy
            clear hm2 hG1 hG2
            go_wp2_with fail
            refine HG1.out.mono ?_
            rintro e wA ⟨heA, hbA⟩
            have HSTg := Lib.hid (HSTf.out.step hbA)
            clear hbA z0 z1 z2 z3 z4 z5 z6
            cases o1 with
            | none =>
              obtain rfl := heA
              have HSTh := Lib.hid (HSTg.out.step ((Below.refl _ wA).alloc (Nat.le_refl _) (.cells #[.int .i64 0, .string ⟨#[]⟩, .int .i64 0, .slice none 0 0, .slice none 0 0] 51)))
              obtain ⟨z0, z1, z2, z3, z4, z5, z6⟩ := thy_cells HSTh.out.copy
              go_wp2_with fail
              refine (HG2.out _ HSTh.out).mono ?_
              rintro e wB ⟨heB, hbB⟩
              have HSTi := Lib.hid (HSTh.out.step hbB)
              clear hbB z0 z1 z2 z3 z4 z5 z6
              cases o2 with
              | none =>
                obtain rfl := heB
                go_wp2_with fail
                refine (HAW.out _).mono ?_
                rintro e wC ⟨rfl, hbC⟩
                have HSTj := Lib.hid ((HSTi.out.step ((Below.refl _ wB).alloc (Nat.le_refl _) _)).step hbC)
                clear hbC
                go_wp2
                go_ret
                exact ⟨rfl, HSTj.out.below⟩
              | some x2 =>
                obtain ⟨nmB, nB, AB, cB, rfl, _⟩ := heB
                go_wp2_with fail
                refine (HAW.out _).mono ?_
                rintro e wC ⟨rfl, hbC⟩
                have HSTj := Lib.hid ((HSTi.out.step ((Below.refl _ wB).alloc (Nat.le_refl _) _)).step hbC)
                clear hbC
                go_wp2
                go_ret
                exact ⟨rfl, HSTj.out.below⟩
            | some x1 =>
              obtain ⟨nmA, nA, AA, cA, rfl, _⟩ := heA
              have HSTh := Lib.hid (HSTg.out.step ((Below.refl _ wA).alloc (Nat.le_refl _) (.cells #[.int .i64 1, .string nmA, .int .i64 0, .slice none 0 0, .slice AA nA cA] 51)))
              obtain ⟨z0, z1, z2, z3, z4, z5, z6⟩ := thy_cells HSTh.out.copy
              go_wp2_with fail
              refine (HG2.out _ HSTh.out).mono ?_
              rintro e wB ⟨heB, hbB⟩
              have HSTi := Lib.hid (HSTh.out.step hbB)
              clear hbB z0 z1 z2 z3 z4 z5 z6
              cases o2 with
              | none => exact absurd (Hm2.out rfl) (by decide)
              | some x2 =>
                obtain ⟨nmB, nB, AB, cB, rfl, _⟩ := heB
                go_wp2_with fail
                refine (HAW.out _).mono ?_
                rintro e wC ⟨rfl, hbC⟩
                have HSTj := Lib.hid ((HSTi.out.step ((Below.refl _ wB).alloc (Nat.le_refl _) _)).step hbC)
                clear hbC
                go_wp2
                go_ret
                exact ⟨rfl, HSTj.out.below⟩
        · have gE : (ex == 0) = false := beq_eq_false_iff_ne.2 hex
          have HSTf := Lib.hid HST6.out
          clear hex
          go_upto_region 17 with fail
          have hd0 : (0 : Int) ≤ (dp : Int) % 3 := by omega
          have hd2 : (dp : Int) % 3 ≤ 2 := by omega
          obtain ⟨hm1, hm2⟩ := groundT_mono T.cls T.tys T.ars a ((dp : Int) % 3) hd0 hd2
          have HG1 := Lib.hid (HG.out _ HSTf.out ((dp : Int) % 3))
          have HG2 := Lib.hid (fun W h => HG.out W h ((dp : Int) % 3 + 1))
          obtain ⟨⟨o1, e1⟩, hG1⟩ : ∃ p, groundT T.cls T.tys T.ars a ((dp : Int) % 3) = p := ⟨_, rfl⟩
          obtain ⟨⟨o2, e2⟩, hG2⟩ : ∃ p, groundT T.cls T.tys T.ars a ((dp : Int) % 3 + 1) = p := ⟨_, rfl⟩
          rw [hG1] at HG1 hm1 hm2
          simp only [hG2] at HG2 hm1 hm2
          obtain rfl : e2 = e1 := hm1
          have Hm2 := Lib.hid hm2
          obtain ⟨z0, z1, z2, z3, z4, z5, z6⟩ := thy_cells HSTf.out.copy
          clear hm2 hG1 hG2
          go_wp2_with fail
          refine HG1.out.mono ?_
          rintro e wA ⟨heA, hbA⟩
          have HSTg := Lib.hid (HSTf.out.step hbA)
          clear hbA z0 z1 z2 z3 z4 z5 z6
          cases o1 with
          | none =>
            obtain rfl := heA
            have HSTh := Lib.hid (HSTg.out.step ((Below.refl _ wA).alloc (Nat.le_refl _) (.cells #[.int .i64 0, .string ⟨#[]⟩, .int .i64 0, .slice none 0 0, .slice none 0 0] 51)))
            obtain ⟨z0, z1, z2, z3, z4, z5, z6⟩ := thy_cells HSTh.out.copy
            go_wp2_with fail
            refine (HG2.out _ HSTh.out).mono ?_
            rintro e wB ⟨heB, hbB⟩
            have HSTi := Lib.hid (HSTh.out.step hbB)
            clear hbB z0 z1 z2 z3 z4 z5 z6
            cases o2 with
            | none =>
              obtain rfl := heB
              go_wp2_with fail
              refine (HAW.out _).mono ?_
              rintro e wC ⟨rfl, hbC⟩
              have HSTj := Lib.hid ((HSTi.out.step ((Below.refl _ wB).alloc (Nat.le_refl _) _)).step hbC)
              clear hbC
              go_wp2
              go_ret
              exact ⟨rfl, HSTj.out.below⟩
            | some x2 =>
              obtain ⟨nmB, nB, AB, cB, rfl, _⟩ := heB
              go_wp2_with fail
              refine (HAW.out _).mono ?_
              rintro e wC ⟨rfl, hbC⟩
              have HSTj := Lib.hid ((HSTi.out.step ((Below.refl _ wB).alloc (Nat.le_refl _) _)).step hbC)
              clear hbC
              go_wp2
              go_ret
              exact ⟨rfl, HSTj.out.below⟩
          | some x1 =>
            obtain ⟨nmA, nA, AA, cA, rfl, _⟩ := heA
            have HSTh := Lib.hid (HSTg.out.step ((Below.refl _ wA).alloc (Nat.le_refl _) (.cells #[.int .i64 1, .string nmA, .int .i64 0, .slice none 0 0, .slice AA nA cA] 51)))
            obtain ⟨z0, z1, z2, z3, z4, z5, z6⟩ := thy_cells HSTh.out.copy
            go_wp2_with fail
            refine (HG2.out _ HSTh.out).mono ?_
            rintro e wB ⟨heB, hbB⟩
            have HSTi := Lib.hid (HSTh.out.step hbB)
            clear hbB z0 z1 z2 z3 z4 z5 z6
            cases o2 with
            | none => exact absurd (Hm2.out rfl) (by decide)
            | some x2 =>
              obtain ⟨nmB, nB, AB, cB, rfl, _⟩ := heB
              go_wp2_with fail
              refine (HAW.out _).mono ?_
              rintro e wC ⟨rfl, hbC⟩
              have HSTj := Lib.hid ((HSTi.out.step ((Below.refl _ wB).alloc (Nat.le_refl _) _)).step hbC)
              clear hbC
              go_wp2
              go_ret
              exact ⟨rfl, HSTj.out.below⟩
      · have gE : (em == 0) = false := beq_eq_false_iff_ne.2 hem
        have HSTf := Lib.hid HST6.out
        clear hem
        go_upto_region 17 with fail
        have hd0 : (0 : Int) ≤ (dp : Int) % 3 := by omega
        have hd2 : (dp : Int) % 3 ≤ 2 := by omega
        obtain ⟨hm1, hm2⟩ := groundT_mono T.cls T.tys T.ars a ((dp : Int) % 3) hd0 hd2
        have HG1 := Lib.hid (HG.out _ HSTf.out ((dp : Int) % 3))
        have HG2 := Lib.hid (fun W h => HG.out W h ((dp : Int) % 3 + 1))
        obtain ⟨⟨o1, e1⟩, hG1⟩ : ∃ p, groundT T.cls T.tys T.ars a ((dp : Int) % 3) = p := ⟨_, rfl⟩
        obtain ⟨⟨o2, e2⟩, hG2⟩ : ∃ p, groundT T.cls T.tys T.ars a ((dp : Int) % 3 + 1) = p := ⟨_, rfl⟩
        rw [hG1] at HG1 hm1 hm2
        simp only [hG2] at HG2 hm1 hm2
        obtain rfl : e2 = e1 := hm1
        have Hm2 := Lib.hid hm2
        obtain ⟨z0, z1, z2, z3, z4, z5, z6⟩ := thy_cells HSTf.out.copy
        clear hm2 hG1 hG2
        go_wp2_with fail
        refine HG1.out.mono ?_
        rintro e wA ⟨heA, hbA⟩
        have HSTg := Lib.hid (HSTf.out.step hbA)
        clear hbA z0 z1 z2 z3 z4 z5 z6
        cases o1 with
        | none =>
          obtain rfl := heA
          have HSTh := Lib.hid (HSTg.out.step ((Below.refl _ wA).alloc (Nat.le_refl _) (.cells #[.int .i64 0, .string ⟨#[]⟩, .int .i64 0, .slice none 0 0, .slice none 0 0] 51)))
          obtain ⟨z0, z1, z2, z3, z4, z5, z6⟩ := thy_cells HSTh.out.copy
          go_wp2_with fail
          refine (HG2.out _ HSTh.out).mono ?_
          rintro e wB ⟨heB, hbB⟩
          have HSTi := Lib.hid (HSTh.out.step hbB)
          clear hbB z0 z1 z2 z3 z4 z5 z6
          cases o2 with
          | none =>
            obtain rfl := heB
            go_wp2_with fail
            refine (HAW.out _).mono ?_
            rintro e wC ⟨rfl, hbC⟩
            have HSTj := Lib.hid ((HSTi.out.step ((Below.refl _ wB).alloc (Nat.le_refl _) _)).step hbC)
            clear hbC
            go_wp2
            go_ret
            exact ⟨rfl, HSTj.out.below⟩
          | some x2 =>
            obtain ⟨nmB, nB, AB, cB, rfl, _⟩ := heB
            go_wp2_with fail
            refine (HAW.out _).mono ?_
            rintro e wC ⟨rfl, hbC⟩
            have HSTj := Lib.hid ((HSTi.out.step ((Below.refl _ wB).alloc (Nat.le_refl _) _)).step hbC)
            clear hbC
            go_wp2
            go_ret
            exact ⟨rfl, HSTj.out.below⟩
        | some x1 =>
          obtain ⟨nmA, nA, AA, cA, rfl, _⟩ := heA
          have HSTh := Lib.hid (HSTg.out.step ((Below.refl _ wA).alloc (Nat.le_refl _) (.cells #[.int .i64 1, .string nmA, .int .i64 0, .slice none 0 0, .slice AA nA cA] 51)))
          obtain ⟨z0, z1, z2, z3, z4, z5, z6⟩ := thy_cells HSTh.out.copy
          go_wp2_with fail
          refine (HG2.out _ HSTh.out).mono ?_
          rintro e wB ⟨heB, hbB⟩
          have HSTi := Lib.hid (HSTh.out.step hbB)
          clear hbB z0 z1 z2 z3 z4 z5 z6
          cases o2 with
          | none => exact absurd (Hm2.out rfl) (by decide)
          | some x2 =>
            obtain ⟨nmB, nB, AB, cB, rfl, _⟩ := heB
            go_wp2_with fail
            refine (HAW.out _).mono ?_
            rintro e wC ⟨rfl, hbC⟩
            have HSTj := Lib.hid ((HSTi.out.step ((Below.refl _ wB).alloc (Nat.le_refl _) _)).step hbC)
            clear hbC
            go_wp2
            go_ret
            exact ⟨rfl, HSTj.out.below⟩
end Go.Proofs.Ythfomoigaoffgaa.Nw
