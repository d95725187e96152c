/- Walks of sort.ground, whole, and of sort.Ground. -/
import Derived.Test.YthfomoigaoffgaaGreatGd3
import Derived.Test.YthfomoigaoffgaaGreatOc
namespace Go.Proofs.YthfomoigaoffgaaGreat.Gd
open Go Go.RowKit Go.Shelf Go.Proofs.YthfomoigaoffgaaGreat.K Go.Proofs.YthfomoigaoffgaaGreat.G Go.Proofs.YthfomoigaoffgaaGreat.Ix Go.Proofs.YthfomoigaoffgaaGreat.O Go.Proofs.YthfomoigaoffgaaGreat.So Go.Proofs.YthfomoigaoffgaaGreat.Nd
set_option linter.unusedSimpArgs false
set_option linter.unusedVariables false

/-- what Needed returns is small -/
theorem need_rows {T : Thy} (hok : NeedOk T) (hR : RT T.cls T.tys T.ars) (hc : T.cls.length ≤ 25) : ∀ t s l, needB T.cls T.tys T.ars t s = some l → l.length ≤ 25 ∧ ∀ x ∈ l, x.length ≤ 25 := by
  intro t s l h
  rcases hR.need t s with ⟨e, _⟩ | ⟨n, l', hn, e, _, hl, hg⟩
  · rw [e] at h; cases h
  · rw [e] at h
    cases h
    have hn10 : n ≤ 10 := by
      unfold args? at hn
      cases hf : T.tys.find? (fun d => d.1 == t) with
      | none => rw [hf] at hn; cases hn
      | some d =>
        rw [hf] at hn
        simp only [Option.map_some, Option.some.injEq] at hn
        have := (hok.tys d (List.mem_of_find?_eq_some hf)).2
        omega
    refine ⟨by omega, fun x hx => ?_⟩
    obtain ⟨j, hj⟩ := List.mem_iff_getElem?.1 hx
    have hjl := (List.getElem?_eq_some_iff.1 hj).1
    rw [hg j (by omega)] at hj
    obtain rfl := Option.some.inj hj
    have hk := least_known (hR.rows_known t s j)
    have := nodup_len (asc_nodup (least_asc T.cls (rows T.ars t s j))) (m := T.cls.map (·.1)) (fun x hx => by
      obtain ⟨i, hi, e⟩ := has_at (known_iff.1 hk x hx)
      rw [← e]
      exact List.mem_map.2 ⟨_, List.getElem_mem hi, rfl⟩)
    rw [List.length_map] at this
    omega
theorem ground_calls (r : Raw) (T : Thy) (S : Nat → Prop) (hok : NeedOk T) (hrow : ∀ t s l, needB T.cls T.tys T.ars t s = some l → l.length ≤ 25 ∧ ∀ x ∈ l, x.length ≤ 25) : ∀ (d : Nat), d ≤ 100 → ∀ (A : Option Addr) (c : Nat) (s : List ByteArray) (W : World), ThyR S W r T → C str Any W A s → s.length ≤ 25 →
    Calls Tryz.prog 28 #[thyV r T, .slice A s.length c, .int .i64 (d : Int)] W (GrEnd d W (groundB T.cls T.tys T.ars d s))
  | 0, _ => fun A c s W hT hC hl => ground0_calls S Any r T A c s W
  | d + 1, hd => fun A c s W hT hC hl => by
    rw [show ((d + 1 : Nat) : Int) = (d : Int) + 1 by omega]
    exact ground_step r T S d (by omega) hok hrow (ground_calls r T S hok hrow d (by omega)) A c s W hT hC hl

/-- what Ground answers -/
def groundT (cs : List Cl) (ts : List Td) (ars : List Arx) (s : List ByteArray) (d : Int) : Option Tr × Int :=
  if checkT cs ts ars ≠ 0 then (none, checkT cs ts ars) else if (normB cs s).2 ≠ 0 then (none, (normB cs s).2) else if d < 0 ∨ 5 < d then (none, 4) else (groundB cs ts ars d.toNat (normB cs s).1, 0)
def GdEnd (d : Nat) (w : World) (R : Option Tr × Int) (e : Ending) (w' : World) : Prop :=
  (match R.1 with
    | none => e = .returned (.tuple #[.agg zTy, .bool false, .int .i64 R.2])
    | some x => ∃ nm n A c, e = .returned (.tuple #[.agg #[.int .i64 1, .string nm, .int .i64 0, .slice none 0 0, .slice A n c], .bool true, .int .i64 R.2]) ∧ (rdTr d).K (fun k => w.heap.size ≤ k) w' x [.int .i64 1, .string nm, .int .i64 0, .slice none 0 0, .slice A n c]) ∧ Below w.heap.size w w'
theorem gd_results {tmps : Array Value} {W : World} {g : Nat} {b : Bool} {x : Int} {v0 v1 v2 v3 v4 : Value} (hs : tmps[6]?.getD undef = .pointer (some ⟨g, 0, none⟩)) (hb : tmps[7]?.getD undef = .bool b) (hx : tmps[8]?.getD undef = .int .i64 x) (hc : W.heap[g]? = some (.cells #[v0, v1, v2, v3, v4] 42 (0, 0))) :
    (results Tryz.f12 tmps).run Tryz.prog W = .ok (.tuple #[.agg #[v0, v1, v2, v3, v4], .bool b, .int .i64 x]) W := by
  have hag := Tryz.isAgg42
  have hsz := Tryz.sizeOf42
  obtain ⟨c0, c1, c2, c3, c4⟩ := cells5 hc
  simp [results, Tryz.results12, go_sem, hs, hb, hx, hag, hsz, c0, c1, c2, c3, c4]
/-- the result, left as it was: no type -/
theorem res_zero {r : Raw} {T : Thy} {w wr : World} (h : GdB r T w wr) :
    (((((wr.setCell ⟨w.heap.size + 1, 0, none⟩ (.int .i64 0)).setCell ⟨w.heap.size + 1, 1, none⟩ (.string ⟨#[]⟩)).setCell ⟨w.heap.size + 1, 2, none⟩ (.int .i64 0)).setCell ⟨w.heap.size + 1, 3, none⟩ (.slice none 0 0)).setCell ⟨w.heap.size + 1, 4, none⟩ (.slice none 0 0)).heap[w.heap.size + 1]? = some (.cells zTy 42 (0, 0)) ∧
    Below w.heap.size w (((((wr.setCell ⟨w.heap.size + 1, 0, none⟩ (.int .i64 0)).setCell ⟨w.heap.size + 1, 1, none⟩ (.string ⟨#[]⟩)).setCell ⟨w.heap.size + 1, 2, none⟩ (.int .i64 0)).setCell ⟨w.heap.size + 1, 3, none⟩ (.slice none 0 0)).setCell ⟨w.heap.size + 1, 4, none⟩ (.slice none 0 0)) :=
  ⟨put5 h.res _ _ _ _ _, h.below.trans ((chg5 wr (w.heap.size + 1) _ _ _ _ _).below (by have := h.lt; omega) (fun k hk => by omega))⟩

set_option maxRecDepth 100000 in
set_option maxHeartbeats 4000000 in
theorem Ground_calls (S Ss : Nat → Prop) (r : Raw) (T : Thy) (A : Option Addr) (c : Nat) (s : List ByteArray) (dp : Int) (w : World) (hT : ThyR S w r T) (hs : Ch.ArsS T) (hcl : T.cls.length ≤ 25) (hC : C str Ss w A s) (hca : s.length ≤ c) (hl : s.length ≤ 25) (hss : ∀ x ∈ s, x.size ≤ maxLen) :
    Calls Tryz.prog 12 #[thyV r T, .slice A s.length c, .int .i64 dp] w (GdEnd dp.toNat w (groundT T.cls T.tys T.ars s dp)) := by
  have HCk := Lib.hid (fun (W : World) (hb : Below w.heap.size w W) => Ch.Check_calls S r T W (hT.below hb) hs)
  have HNm := Lib.hid (fun (W : World) (hb : Below w.heap.size w W) L er hN => normal_any (L := L) (er := er) (hT.below hb) (hC.below hb) rfl hca hl hss hs.2.2 hN)
  have HGd := Lib.hid (fun (h : checkT T.cls T.tys T.ars = 0) (W : World) (hb : Below w.heap.size w W) d hd A c L (hL : C str Any W A L) hl => ground_calls r T S (needOk_of h hs) (need_rows (needOk_of h hs) (rt_of h) hcl) d hd A c L W (hT.below hb) hL hl)
  have hag := Tryz.isAgg29
  have hsz := Tryz.sizeOf29
  have hag2 := Tryz.isAgg42
  have hsz2 := Tryz.sizeOf42
  have hB1 : GdB r T w ((w.alloc (.cells (thyC r T) 29)).alloc (.cells zTy 42)) := by
    refine ⟨(Below.heap_alloc _ _ _ (by simp)).trans (World.alloc_heap_new w _), ?_, ((Below.refl _ _).alloc (Nat.le_refl _) _).alloc (by simp) _⟩
    have := World.alloc_heap_new (w.alloc (.cells (thyC r T) 29)) (.cells zTy 42)
    rwa [World.size_alloc] at this
  have HB1 := Lib.hid hB1
  obtain ⟨z0, z1, z2, z3, z4, z5, z6⟩ := thy_cells HB1.out.thy
  generalize hRR : groundT T.cls T.tys T.ars s dp = R
  unfold groundT at hRR
  have HR := Lib.hid hRR
  clear hT hC hs hRR hB1
  unfold thyV thyC at HCk HNm HGd
  unfold thyV
  unfold thyC at z0 z1 z2 z3 z4 z5 z6 ⊢
  go_enter Tryz.func12, Tryz.ntmps12
  go_wp2_with fail
  refine (HCk.out _ HB1.out.below).mono ?_
  rintro e w2 ⟨rfl, hb2⟩
  have HB2 := Lib.hid (HB1.out.step hb2)
  clear hb2 z0 z1 z2 z3 z4 z5 z6 HB1
  obtain ⟨y0, y1, y2, y3, y4⟩ := cells5 HB2.out.res
  have f0 := frozen5 HB2.out.res 0
  have f1 := frozen5 HB2.out.res 1
  have f2 := frozen5 HB2.out.res 2
  have f3 := frozen5 HB2.out.res 3
  have f4 := frozen5 HB2.out.res 4
  by_cases h1 : checkT T.cls T.tys T.ars = 0
  · have hR := HR.out
    rw [if_neg (fun e => e h1)] at hR
    have HGd := Lib.hid (HGd.out h1)
    rw [h1]
    obtain ⟨⟨N, en⟩, hN⟩ : ∃ p, normB T.cls s = p := ⟨_, rfl⟩
    rw [hN] at hR
    dsimp only at hR
    have hNl : N.length ≤ 25 := by have := (norm_small hN hss).2; omega
    have HN2 := Lib.hid (HNm.out w2 HB2.out.below N en hN)
    have HR := Lib.hid hR
    obtain ⟨z0, z1, z2, z3, z4, z5, z6⟩ := thy_cells HB2.out.thy
    clear hR hN HNm h1 y0 y1 y2 y3 y4 f0 f1 f2 f3 f4
    go_wp2_with fail
    refine HN2.out.mono ?_
    rintro e w4 ⟨A4, c4, rfl, hC4, hc4, hb4⟩
    have HB4 := Lib.hid (HB2.out.step hb4)
    have HC4 := Lib.hid hC4
    clear hb4 z0 z1 z2 z3 z4 z5 z6 HB2 HN2 hC4
    obtain ⟨z0, z1, z2, z3, z4, z5, z6⟩ := thy_cells HB4.out.thy
    obtain ⟨y0, y1, y2, y3, y4⟩ := cells5 HB4.out.res
    have f0 := frozen5 HB4.out.res 0
    have f1 := frozen5 HB4.out.res 1
    have f2 := frozen5 HB4.out.res 2
    have f3 := frozen5 HB4.out.res 3
    have f4 := frozen5 HB4.out.res 4
    by_cases he : en = 0
    · subst he
      have hR := HR.out
      rw [if_neg (by decide)] at hR
      by_cases hd : dp < 0 ∨ 5 < dp
      · rw [if_pos hd] at hR
        subst hR
        have hz := res_zero HB4.out
        have Hp := Lib.hid hz.1
        have Hb := Lib.hid hz.2
        clear HR hz
        by_cases hd1 : dp < 0
        · clear hd
          go_wp2
          exact bodyPost_ret (gd_results rfl rfl rfl Hp.out) rfl ⟨rfl, Hb.out⟩
        · have hd2 : 5 < dp := by omega
          clear hd
          go_wp2
          exact bodyPost_ret (gd_results rfl rfl rfl Hp.out) rfl ⟨rfl, Hb.out⟩
      · rw [if_neg hd] at hR
        obtain ⟨d, rfl⟩ : ∃ d : Nat, dp = (d : Int) := ⟨dp.toNat, by omega⟩
        have hd1 : ¬ (d : Int) < 0 := by omega
        have hd2 : ¬ (5 : Int) < (d : Int) := by omega
        rw [Int.toNat_natCast] at hR ⊢
        have HG4 := Lib.hid (HGd.out w4 HB4.out.below d (by omega) A4 c4 N HC4.out hNl)
        generalize groundB T.cls T.tys T.ars d N = D at HG4 hR
        subst hR
        clear HR HGd hd y0 y1 y2 y3 y4 f0 f1 f2 f3 f4
        go_wp2_with fail
        refine HG4.out.mono ?_
        rintro e w5 ⟨he5, hb5⟩
        have HB5 := Lib.hid (HB4.out.step hb5)
        have hb54 := hb5.size
        have hw4 := HB4.out.lt
        clear z0 z1 z2 z3 z4 z5 z6 HB4 HG4 HC4
        cases D with
        | none =>
          obtain rfl := he5
          have HB6 := Lib.hid (HB5.out.step ((Below.refl _ _).alloc (Nat.le_refl _) (.cells zTy 42)))
          obtain ⟨y0, y1, y2, y3, y4⟩ := cells5 HB6.out.res
          have f0 := frozen5 HB6.out.res 0
          have f1 := frozen5 HB6.out.res 1
          have f2 := frozen5 HB6.out.res 2
          have f3 := frozen5 HB6.out.res 3
          have f4 := frozen5 HB6.out.res 4
          have hz := res_zero HB6.out
          have Hp := Lib.hid hz.1
          have Hb := Lib.hid hz.2
          have hlt := HB5.out.lt
          clear hz HB5 hb5
          go_wp2
          exact bodyPost_ret (gd_results rfl rfl rfl Hp.out) rfl ⟨rfl, Hb.out⟩
        | some x =>
          obtain ⟨nm, n, A5, c5, rfl, hK⟩ := he5
          have hb6 : Below w5.heap.size w5 (w5.alloc (.cells #[.int .i64 1, .string nm, .int .i64 0, .slice none 0 0, .slice A5 n c5] 42)) := (Below.refl _ _).alloc (Nat.le_refl _) _
          have HB6 := Lib.hid (HB5.out.step hb6)
          obtain ⟨y0, y1, y2, y3, y4⟩ := cells5 HB6.out.res
          have f0 := frozen5 HB6.out.res 0
          have f1 := frozen5 HB6.out.res 1
          have f2 := frozen5 HB6.out.res 2
          have f3 := frozen5 HB6.out.res 3
          have f4 := frozen5 HB6.out.res 4
          have hp := put5 HB6.out.res (.int .i64 1) (.string nm) (.int .i64 0) (.slice none 0 0) (.slice A5 n c5)
          have hcc := chg5 (w5.alloc (.cells #[.int .i64 1, .string nm, .int .i64 0, .slice none 0 0, .slice A5 n c5] 42)) (w.heap.size + 1) (.int .i64 1) (.string nm) (.int .i64 0) (.slice none 0 0) (.slice A5 n c5)
          have Hp := Lib.hid hp
          have Hb := Lib.hid (HB6.out.below.trans (hcc.below (by have := HB6.out.lt; omega) (fun k hk => by omega)))
          have hlt := HB5.out.lt
          have HK := Lib.hid ((rdTr d).mono (S' := fun k => w.heap.size ≤ k) (fun k hk => by omega) (Rd.chg (Rd.below ((rdTr d).mono (S' := fun k => w.heap.size + 2 ≤ k) (fun k (hk : w4.heap.size ≤ k) => by omega) hK) hb6) hcc (fun k hk _ e => by omega)))
          clear hp hcc hK hb6 hb5 HB5
          go_wp2
          exact bodyPost_ret (gd_results rfl rfl rfl Hp.out) rfl ⟨⟨nm, n, A5, c5, rfl, HK.out⟩, Hb.out⟩
    · have hR := HR.out
      rw [if_pos he] at hR
      subst hR
      have gE : (en != 0) = true := bne_iff_ne.2 he
      have hz := res_zero HB4.out
      have Hp := Lib.hid hz.1
      have Hb := Lib.hid hz.2
      clear he HR hz
      go_wp2
      exact bodyPost_ret (gd_results rfl rfl rfl Hp.out) rfl ⟨rfl, Hb.out⟩
  · have hR := HR.out
    rw [if_pos h1] at hR
    generalize checkT T.cls T.tys T.ars = E at h1 hR
    subst hR
    have gE : (E != 0) = true := bne_iff_ne.2 h1
    have hz := res_zero HB2.out
    have Hp := Lib.hid hz.1
    have Hb := Lib.hid hz.2
    clear h1 HR hz
    go_wp2
    exact bodyPost_ret (gd_results rfl rfl rfl Hp.out) rfl ⟨rfl, Hb.out⟩
end Go.Proofs.YthfomoigaoffgaaGreat.Gd
