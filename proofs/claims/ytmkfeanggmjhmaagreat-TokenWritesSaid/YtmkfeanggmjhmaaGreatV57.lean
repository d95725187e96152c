/- Own walks of the reference of tokens: Scan. -/
import Derived.Test.YtmkfeanggmjhmaaGreatV4
import Derived.Test.YtmkfeanggmjhmaaGreatOw
import Derived.Lib.AppendZeros
import Derived.Test.YtmkfeanggmjhmaaGreatVB
namespace Go.Proofs.YtmkfeanggmjhmaaGreat.V
open Go Go.RowKit Go.Proofs.YtmkfeanggmjhmaaGreatW.PrintWords Go.Proofs.YtmkfeanggmjhmaaGreatW.PrintLast Go.Proofs.YtmkfeanggmjhmaaGreatW.PrintMore
open Go.Proofs.YtmkfeanggmjhmaaGreat.M Go.Proofs.YtmkfeanggmjhmaaGreat.E Go.Proofs.YtmkfeanggmjhmaaGreat.K Go.Proofs.YtmkfeanggmjhmaaGreat.L Go.Proofs.YtmkfeanggmjhmaaGreat.PTokenWrites
open Go.Proofs.YtmkfeanggmjhmaaGreat.G (Rd Mine Cells iso pair str int)
set_option linter.unusedSimpArgs false
set_option linter.unusedVariables false

/-- a token, in memory -/
def kTok : Rd Tok := iso (pair (int .i64) (pair str (int .i64))) (fun x => (x.kind, x.text, (x.at_ : Int)))
theorem kTok_mk (S : Nat → Prop) (w : World) (x : Tok) : kTok.K S w x [.int .i64 x.kind, .string x.text, .int .i64 x.at_] := ⟨[.int .i64 x.kind], [.string x.text, .int .i64 x.at_], rfl, rfl, [.string x.text], [.int .i64 x.at_], rfl, rfl, rfl⟩
theorem kTok_open {S : Nat → Prop} {w : World} {x : Tok} {cs : List Value} (h : kTok.K S w x cs) : cs = [.int .i64 x.kind, .string x.text, .int .i64 x.at_] := by
  obtain ⟨c1, c2, rfl, rfl, c3, c4, rfl, rfl, rfl⟩ := h
  rfl
abbrev None' : Nat → Prop := fun _ => False
def finR : List Tok × Option (Nat × Int) → List Tok × Nat × Int
  | (xs, none) => (xs, 0, 0)
  | (_, some (q, c)) => ([], q, c)
/-- what Scan returns, from a place on -/
def goOn (l : List ByteArray) (s : ByteArray) (i : Nat) (pre : List Tok) : List Tok × Nat × Int := match blanksE s i with
  | .error q => ([], q, 162)
  | .ok j => finR (scanFrom (kwL l) s j pre)
theorem scanRef_eq (l : List ByteArray) (s : ByteArray) (h0 : checkE l = 0) (hs : ¬ 40000 < s.size) : scanRef l s = goOn l s 0 [] := by
  unfold scanRef goOn scanE
  rw [if_neg (fun h => h h0), if_neg hs]
  cases blanksE s 0 with
  | error q => rfl
  | ok j =>
    simp only
    generalize scanFrom (kwL l) s j [] = R
    obtain ⟨xs, _ | ⟨q, c⟩⟩ := R <;> rfl
theorem tok49_info : (Tryz.prog.info? 37).map (fun i => (i.zero, i.size, i.bytes)) = some (some (.agg #[.int .i64 0, .string ⟨#[]⟩, .int .i64 0]), 3, 32) := by kernel_rfl
theorem c_check (A : Option Addr) (c : Nat) (l : List ByteArray) (hx : ∀ x ∈ l, x.size ≤ 1000000000) (hc : l.length ≤ c) (w : World) (hr : Kd.C Kd.string w A l.length l) :
    Calls Tryz.prog 26 #[.slice A l.length c] w fun e w' => e = .returned (.int .i64 (checkE l)) ∧ Below w.heap.size w w' := by
  obtain ⟨k, hk⟩ := (Check_ev l hx).at_
  exact (triforiumref14_Check.calls k A c l _ w hr hc hk).mono fun _ _ ⟨h, d⟩ => ⟨h, below_drawn d⟩

set_option maxRecDepth 100000 in
set_option maxHeartbeats 4000000 in
theorem scan_calls (A : Option Addr) (c : Nat) (l : List ByteArray) (hx : ∀ x ∈ l, x.size ≤ 1000000000) (hc : l.length ≤ c) (s : ByteArray) (w : World) (hr : Kd.C Kd.string w A l.length l) (hsl : s.size ≤ maxLen) :
    Calls Tryz.prog 28 #[.slice A l.length c, .string s] w fun e w' => ∃ v, e = .returned (.tuple #[v, .int .i64 (scanRef l s).2.1, .int .i64 (scanRef l s).2.2]) ∧ Mine kTok w.heap.size None' w' v (scanRef l s).1 ∧ Below w.heap.size w w' := by
  have HC := Lib.hid (c_check A c l hx hc w hr)
  by_cases h0 : checkE l = 0
  · obtain ⟨hl, hk⟩ := checkE_kw h0
    rw [h0] at HC
    by_cases hbig : 40000 < s.size
    · have hR : scanRef l s = ([], 0, 7) := by unfold scanRef; rw [if_neg (fun h => h h0), if_pos hbig]
      have hbz : (40000 : Int) < (s.size : Int) := by omega
      rw [hR]
      clear hR h0 hr hk
      go_enter Tryz.func28, Tryz.ntmps28
      go_wp2_with fail
      refine HC.out.mono ?_
      rintro e w2 ⟨rfl, hb2⟩
      have HB2 := Lib.hid hb2
      clear hb2
      go_wp2
      go_ret3
      exact ⟨_, rfl, Mine.nil .., HB2.out⟩
    · have hbz : ¬ (40000 : Int) < (s.size : Int) := by omega
      rw [scanRef_eq l s h0 hbig]
      generalize hR : goOn l s 0 [] = R
      have HR := Lib.hid hR
      have HRW := Lib.hid hr
      clear hR h0 hr
      have HBl := Lib.hid (fun (i : Nat) (hi : i ≤ s.size) W => c_blanks s i (by omega) hi W)
      have HOn := Lib.hid (fun (j : Nat) (hj : j < s.size) W hr => one_calls A c l (by omega) hk hx hc s (by omega) j hj W hr)
      go_enter Tryz.func28, Tryz.ntmps28
      go_wp2_with fail
      refine HC.out.mono ?_
      rintro e w2 ⟨rfl, hb2⟩
      have HB2 := Lib.hid hb2
      clear hb2 HC
      go_wp2
      have hm0 : Mine kTok w.heap.size None' (w2.alloc (.cells #[] 37)) (.slice (some ⟨w2.heap.size, 0, none⟩) 0 0) [] :=
        ⟨some ⟨w2.heap.size, 0, none⟩, 0, rfl, Nat.le_refl _, Nat.zero_le _, .inr ⟨w2.heap.size, 0, rfl, HB2.out.size, by simp, fun j hj => absurd hj (by simp), fun j x hj => by simp at hj⟩⟩
      have HM0 := Lib.hid hm0
      have HB3 := Lib.hid (HB2.out.alloc HB2.out.size (.cells #[] 37))
      clear hm0
      go_loopg [8, 9] (s.size + 1) (fun gg v8 v9 wr => ∃ (B : Option Addr) (n cp : Nat) (pre : List Tok) (i : Nat), v8 = .slice B n cp ∧ v9 = .int .i64 i ∧ i ≤ s.size ∧ pre.length ≤ i ∧ s.size - i < gg ∧ Hid (goOn l s i pre = R) ∧ Hid (Mine kTok w.heap.size None' wr (.slice B n cp) pre) ∧ Hid (Below w.heap.size w wr))
      case atStart => exact ⟨_, _, _, [], 0, rfl, rfl, by omega, by simp, by omega, HR, HM0, HB3⟩
      case round =>
        clear HR HM0 HB3 HB2
        obtain ⟨B, n, cp, pre, i, rfl, rfl, hi, hpre, hg, HR, HM, HBw⟩ := hrel
        have HBi := Lib.hid (HBl.out i hi wr)
        have hr' := HR.out
        unfold goOn at hr'
        cases hb : blanksE s i with
        | error q =>
          rw [hb] at HBi hr'
          change ([], q, 162) = R at hr'
          subst hr'
          change Hid (Calls _ _ _ wr fun e w' => e = .returned (.tuple #[.int .i64 (q : Int), .int .i64 162]) ∧ _) at HBi
          clear hb
          go_wp2_with fail
          refine HBi.out.mono ?_
          rintro e w4 ⟨rfl, hb4⟩
          have HB4 := Lib.hid (HBw.out.trans (hb4.mono HBw.out.size))
          clear hb4
          go_wp2
          go_ret3
          exact ⟨_, rfl, Mine.nil .., HB4.out⟩
        | ok j =>
          have hj := blanksE_le hi hb
          rw [hb] at HBi hr'
          change finR (scanFrom (kwL l) s j pre) = R at hr'
          change Hid (Calls _ _ _ wr fun e w' => e = .returned (.tuple #[.int .i64 (j : Int), .int .i64 0]) ∧ _) at HBi
          clear hb
          by_cases hjs : j < s.size
          · have b1 : ((j : Int) == (s.size : Int)) = false := beq_eq_false_iff_ne.2 (by omega)
            rw [scanFrom_eq _ s j pre hjs] at hr'
            go_wp2_with fail
            refine HBi.out.mono ?_
            rintro e w4 ⟨rfl, hb4⟩
            have HB4 := Lib.hid (HBw.out.trans (hb4.mono HBw.out.size))
            have HM4 := Lib.hid (HM.out.below hb4)
            clear hb4
            have HO := Lib.hid (HOn.out j hjs w4 (Kd.C_below HRW.out HB4.out))
            cases ho : oneE (kwL l) s j with
            | error c1 =>
              have hc0 := oneE_code ho
              rw [ho] at HO hr'
              change ([], j, c1) = R at hr'
              subst hr'
              change Hid (Calls _ _ _ w4 fun e w' => e = .returned (.tuple #[.agg #[.int .i64 0, .string ⟨#[]⟩, .int .i64 0], .int .i64 (j : Int), .int .i64 c1]) ∧ _) at HO
              clear ho
              go_wp2_with fail
              refine HO.out.mono ?_
              rintro e w5 ⟨rfl, hb5⟩
              have HB5 := Lib.hid (HB4.out.trans (hb5.mono HB4.out.size))
              clear hb5
              go_wp2
              go_ret3
              exact ⟨_, rfl, Mine.nil .., HB5.out.alloc HB5.out.size _⟩
            | ok r =>
              obtain ⟨⟨k0, t0⟩, e0⟩ := r
              have hl := oneE_lt hjs ho
              simp only at hl
              rw [ho] at HO hr'
              change Hid (Calls _ _ _ w4 fun e w' => e = .returned (.tuple #[.agg #[.int .i64 k0, .string t0, .int .i64 (j : Int)], .int .i64 (e0 : Int), .int .i64 0]) ∧ _) at HO
              have hr2 : goOn l s e0 (pre ++ [⟨k0, t0, j⟩]) = R := by
                rw [← hr']
                unfold goOn
                simp only
                cases blanksE s e0 <;> rfl
              have HR := Lib.hid hr2
              have Hl := Lib.hid hl
              have Hp := Lib.hid hpre
              have Hj := Lib.hid hj
              clear ho hr' hr2 hl hpre hj
              go_wp2_with fail
              refine HO.out.mono ?_
              rintro e w5 ⟨rfl, hb5⟩
              have HB5 := Lib.hid (HB4.out.trans (hb5.mono HB4.out.size))
              have HM5 := Lib.hid (HM4.out.below hb5)
              obtain ⟨W6, hW6⟩ : ∃ W6, (w5.alloc (.cells #[.int .i64 k0, .string t0, .int .i64 (j : Int)] 37)).alloc (.cells #[.int .i64 k0, .string t0, .int .i64 (j : Int)] 37) = W6 := ⟨_, rfl⟩
              have hb6 : Below w5.heap.size w5 W6 := by rw [← hW6]; exact ((Below.refl _ _).alloc (Nat.le_refl _) _).alloc (by simp) _
              have hs6 : W6.heap.size = w5.heap.size + 2 := by rw [← hW6]; simp
              have hcell : W6.heap[w5.heap.size + 1]? = some (.cells #[.int .i64 k0, .string t0, .int .i64 (j : Int)] 37 (0, 0)) := by
                rw [← hW6]
                have := World.alloc_heap_new (w5.alloc (.cells #[.int .i64 k0, .string t0, .int .i64 (j : Int)] 37)) (.cells #[.int .i64 k0, .string t0, .int .i64 (j : Int)] 37)
                rwa [World.size_alloc] at this
              have hB6 : Below w.heap.size w W6 := HB5.out.trans (hb6.mono HB5.out.size)
              have hm6 := HM5.out.below hb6
              obtain ⟨i0, hi0, hz0, hz1, hz2⟩ := info_parts tok49_info
              have hpl : pre.length ≤ 40000 := by have := Hp.out; omega
              obtain ⟨v', w7, hrun, hm7, hg7, _⟩ := hm6.append (P := Tryz.prog) (t := 35) (ty := 35) (bytes := 32) Tryz.underlying35 hi0 hz0 hz1 hz2 rfl (by decide) (b2 := w5.heap.size + 1) (o2 := 0) (c2 := 1) (m := 1) (ys := [(⟨k0, t0, j⟩ : Tok)]) rfl (by simp)
                (fun q y hq => by
                  have hq1 : q < 1 := (List.getElem?_eq_some_iff.1 hq).1
                  obtain rfl : q = 0 := by omega
                  cases hq
                  refine ⟨_, kTok_mk _ _ _, fun u v hu => ?_⟩
                  rw [Nat.zero_mul, Nat.zero_add]
                  simp only [World.cell?, hcell]
                  simpa using hu) (by unfold maxLen; simp; omega) (by simp; omega) hB6.size
              have hc7 : Chg (fun k => (Value.slice B n cp).ownBlock = some k) W6 w7 := Chg.grown hg7 (fun k e => .inl e)
              have HB7 := Lib.hid (hB6.trans (hc7.below hB6.size (fun k hk => by have := (hm6.base_le hk).1; omega)))
              obtain ⟨B7, n7, c7, rfl⟩ : ∃ A n c, v' = .slice A n c := by
                obtain ⟨A, c, e, _⟩ := hm7.form
                exact ⟨A, _, c, e⟩
              have HM7 := Lib.hid hm7
              have HRun := Lib.hid hrun
              clear hb5 hb6 hs6 hcell hB6 hm6 hrun hm7 hg7 hc7 hi0 hz0 hz1 hz2 hpl
              subst hW6
              go_wp2_with (at_builtin; refine Lib.wpList_append_run _ rfl _ _ _ _ rfl _ _ rfl rfl _ _ HRun.out ?_)
              go_roundg (s.size - e0 + 1)
              case measure => have := Hl.out; have := Hj.out; omega
              case rel => exact ⟨B7, n7, c7, pre ++ [⟨k0, t0, j⟩], e0, rfl, rfl, Hl.out.2, by have := Hl.out; have := Hj.out; have := Hp.out; simp; omega, by omega, HR, HM7, HB7⟩
          · rw [scanFrom_end _ s j pre (by omega)] at hr'
            change (pre, 0, 0) = R at hr'
            subst hr'
            have b1 : ((j : Int) == (s.size : Int)) = true := beq_iff_eq.2 (by omega)
            go_wp2_with fail
            refine HBi.out.mono ?_
            rintro e w4 ⟨rfl, hb4⟩
            have HB4 := Lib.hid (HBw.out.trans (hb4.mono HBw.out.size))
            have HM4 := Lib.hid (HM.out.below hb4)
            clear hb4
            go_wp2
            go_ret3
            exact ⟨_, rfl, HM4.out, HB4.out⟩
  · have hR : scanRef l s = ([], 0, checkE l) := by unfold scanRef; rw [if_pos h0]
    rw [hR]
    generalize checkE l = E at HC h0
    clear hR hr
    go_enter Tryz.func28, Tryz.ntmps28
    go_wp2_with fail
    refine HC.out.mono ?_
    rintro e w2 ⟨rfl, hb2⟩
    have HB2 := Lib.hid hb2
    clear hb2
    go_wp2
    go_ret3
    exact ⟨_, rfl, Mine.nil .., HB2.out⟩
end Go.Proofs.YtmkfeanggmjhmaaGreat.V
namespace Go.Proofs.YtmkfeanggmjhmaaGreat.V
open Go Go.RowKit Go.Proofs.YtmkfeanggmjhmaaGreatW.PrintWords Go.Proofs.YtmkfeanggmjhmaaGreatW.PrintLast Go.Proofs.YtmkfeanggmjhmaaGreatW.PrintMore
open Go.Proofs.YtmkfeanggmjhmaaGreat.M Go.Proofs.YtmkfeanggmjhmaaGreat.E Go.Proofs.YtmkfeanggmjhmaaGreat.K Go.Proofs.YtmkfeanggmjhmaaGreat.L Go.Proofs.YtmkfeanggmjhmaaGreat.PTokenWrites
open Go.Proofs.YtmkfeanggmjhmaaGreat.G (Rd Mine Cells iso pair str int C)
set_option linter.unusedSimpArgs false
set_option linter.unusedVariables false

theorem tok36_info : (Tryz.prog.info? 30).map (fun i => (i.zero, i.size, i.bytes)) = some (some (.agg #[.int .i64 0, .string ⟨#[]⟩, .int .i64 0]), 3, 32) := by kernel_rfl
theorem tok_at {S : Nat → Prop} {w : World} {A : Option Addr} {l : List Tok} (h : C kTok S w A l) (j : Nat) (hj : j < l.length) : ∃ b o, A = some ⟨b, o, none⟩ ∧ b < w.heap.size ∧ w.cell? ⟨b, o + j * 3, none⟩ = some (.int .i64 (l[j]'hj).kind) ∧ w.cell? ⟨b, o + j * 3 + 1, none⟩ = some (.string (l[j]'hj).text) ∧ w.cell? ⟨b, o + j * 3 + 2, none⟩ = some (.int .i64 ((l[j]'hj).at_ : Int)) := by
  obtain ⟨b, o, cs, e, _, hb, hK, hc⟩ := h.at_ j hj
  obtain rfl := kTok_open hK
  have e3 : kTok.sz = 3 := rfl
  rw [e3] at hc
  exact ⟨b, o, e, hb, hc 0 _ rfl, hc 1 _ rfl, hc 2 _ rfl⟩

set_option maxRecDepth 100000 in
set_option maxHeartbeats 4000000 in
theorem tokens_calls (S : Nat → Prop) (A : Option Addr) (c : Nat) (l : List Tok) (w : World) (hC : C kTok S w A l) (hc : l.length ≤ c) (hl : l.length ≤ 1000000) :
    Calls Tryz.prog 14 #[.slice A l.length c] w fun e w' => ∃ B n cp, e = .returned (.slice B n cp) ∧ Mine kTok w.heap.size None' w' (.slice B n cp) l ∧ Below w.heap.size w w' := by
  have HC := Lib.hid hC
  clear hC
  have hlm : l.length ≤ 9223372036854775807 := by omega
  go_enter Tryz.func14, Tryz.ntmps14
  go_wp2
  go_loopg [3, 8] l.length (fun gg v3 v8 wr => ∃ (B : Option Addr) (n cp k : Nat), v3 = .slice B n cp ∧ v8 = .int .i64 k ∧ k ≤ l.length ∧ l.length - k ≤ gg ∧ Hid (Mine kTok w.heap.size None' wr (.slice B n cp) (l.take k)) ∧ Hid (Below w.heap.size w wr))
  case atStart => exact ⟨none, 0, 0, 0, rfl, rfl, by omega, by omega, Lib.hid (by rw [List.take_zero]; exact Mine.nil ..), Lib.hid (Below.refl _ _)⟩
  case round =>
    obtain ⟨B, n, cp, k, rfl, rfl, hk, hg, HM, HB⟩ := hrel
    by_cases hlt : k < l.length
    · have hlz : (k : Int) < (l.length : Int) := by omega
      have Hlt := Lib.hid hlt
      obtain ⟨b, o, rfl, hb, q0, q1, q2⟩ := tok_at (HC.out.below HB.out) k hlt
      have htk := List.take_succ_eq_append_getElem hlt
      generalize l[k]'hlt = x at q0 q1 q2 htk
      obtain ⟨W6, hW6⟩ : ∃ W6, (wr.alloc (.cells #[.int .i64 x.kind, .string x.text, .int .i64 (x.at_ : Int)] 37)).alloc (.cells #[.int .i64 x.kind, .string x.text, .int .i64 (x.at_ : Int)] 30) = W6 := ⟨_, rfl⟩
      have hb6 : Below wr.heap.size wr W6 := by rw [← hW6]; exact ((Below.refl _ _).alloc (Nat.le_refl _) _).alloc (by simp) _
      have hcell : W6.heap[wr.heap.size + 1]? = some (.cells #[.int .i64 x.kind, .string x.text, .int .i64 (x.at_ : Int)] 30 (0, 0)) := by
        rw [← hW6]
        have := World.alloc_heap_new (wr.alloc (.cells #[.int .i64 x.kind, .string x.text, .int .i64 (x.at_ : Int)] 37)) (.cells #[.int .i64 x.kind, .string x.text, .int .i64 (x.at_ : Int)] 30)
        rwa [World.size_alloc] at this
      have hB6 : Below w.heap.size w W6 := HB.out.trans (hb6.mono HB.out.size)
      have hm6 := HM.out.below hb6
      obtain ⟨i0, hi0, hz0, hz1, hz2⟩ := info_parts tok36_info
      have hpl : (l.take k).length ≤ 1000000 := by rw [List.length_take]; omega
      obtain ⟨v', w7, hrun, hm7, hg7, _⟩ := hm6.append (P := Tryz.prog) (t := 25) (ty := 25) (bytes := 32) Tryz.underlying25 hi0 hz0 hz1 hz2 rfl (by decide) (b2 := wr.heap.size + 1) (o2 := 0) (c2 := 1) (m := 1) (ys := [x]) rfl (by simp)
        (fun q y hq => by
          have hq1 : q < 1 := (List.getElem?_eq_some_iff.1 hq).1
          obtain rfl : q = 0 := by omega
          cases hq
          refine ⟨_, kTok_mk _ _ _, fun u v hu => ?_⟩
          rw [Nat.zero_mul, Nat.zero_add]
          simp only [World.cell?, hcell]
          simpa using hu) (by unfold maxLen; rw [List.length_singleton]; omega) (by rw [List.length_singleton]; omega) hB6.size
      rw [← htk] at hm7
      have hc7 : Chg (fun k => (Value.slice B n cp).ownBlock = some k) W6 w7 := Chg.grown hg7 (fun k e => .inl e)
      have HB7 := Lib.hid (hB6.trans (hc7.below hB6.size (fun k hk => by have := (hm6.base_le hk).1; omega)))
      obtain ⟨B7, n7, c7, rfl⟩ : ∃ A n c, v' = .slice A n c := by
        obtain ⟨A, c, e, _⟩ := hm7.form
        exact ⟨A, _, c, e⟩
      have HM7 := Lib.hid hm7
      have HRun := Lib.hid hrun
      clear hb6 hcell hB6 hm6 hrun hm7 hg7 hc7 hi0 hz0 hz1 hz2 hpl htk
      subst hW6
      go_wp2_with (at_builtin; refine Lib.wpList_append_run _ rfl _ _ _ _ rfl _ _ rfl rfl _ _ HRun.out ?_)
      go_roundg (l.length - (k + 1))
      case measure => omega
      case rel => exact ⟨B7, n7, c7, k + 1, rfl, by go_num, Hlt.out, Nat.le_refl _, HM7, HB7⟩
    · have hlz : ¬ (k : Int) < (l.length : Int) := by omega
      obtain rfl : k = l.length := by omega
      have HM := Lib.hid (show Mine kTok w.heap.size None' wr (.slice B n cp) l by have := HM.out; rwa [List.take_length] at this)
      go_wp2
      go_ret
      exact ⟨_, _, _, rfl, HM.out, HB.out⟩

/-- the program's row of tokens, read -/
theorem tok_row {w : World} {base : Nat} {v : Value} {xs : List Tok} (h : w.ownsRow base 30 3 v xs.length (xs.flatMap fun x => [.int .i64 x.kind, .string x.text, .int .i64 (x.at_ : Int)])) : ∃ A c, v = .slice A xs.length c ∧ xs.length ≤ c ∧ C kTok (fun _ => True) w A xs := by
  have h' := h
  rcases h.2 with ⟨rfl, h0⟩ | ⟨g, cap, cur, rfl, hg, hh, hc, hm, _⟩
  · have : xs = [] := List.eq_nil_of_length_eq_zero h0
    subst this
    exact ⟨none, 0, rfl, Nat.le_refl _, C.nil ..⟩
  · refine ⟨_, cap, rfl, hc, by omega, fun _ => ⟨g, 0, rfl, trivial, (Array.getElem?_eq_some_iff.1 hh).1, fun j x hj => ⟨_, kTok_mk _ _ x, fun i u hu => ?_⟩⟩⟩
    have e3 : kTok.sz = 3 := rfl
    have hj' := (List.getElem?_eq_some_iff.1 hj).1
    have hi : i < 3 := (List.getElem?_eq_some_iff.1 hu).1
    rw [e3, Nat.zero_add, h'.cellAt _ (by omega)]
    have key : ∀ (l : List Tok) (j : Nat) (x : Tok), l[j]? = some x → (l.flatMap fun x => [Value.int .i64 x.kind, .string x.text, .int .i64 (x.at_ : Int)])[j * 3 + i]? = ([Value.int .i64 x.kind, .string x.text, .int .i64 (x.at_ : Int)] : List Value)[i]? := by
      intro l
      induction l with
      | nil => intro j x hj; simp at hj
      | cons y r ih =>
        intro j x hj
        rw [List.flatMap_cons]
        cases j with
        | zero => cases hj; rw [Nat.zero_mul, Nat.zero_add, List.getElem?_append_left (by simpa using hi)]
        | succ j =>
          rw [List.getElem?_append_right (by simp; omega)]
          have := ih j x (by simpa using hj)
          rw [← this]
          congr 1
          simp
          omega
    rw [key xs j x hj]
    exact hu
end Go.Proofs.YtmkfeanggmjhmaaGreat.V
