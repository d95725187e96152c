/- Walk of sat.Replay. -/
import Derived.Test.YtggfjfmgclcnlaaZe
import Derived.Deep.RegionHeld3
namespace Go.Proofs.Ytggfjfmgclcnlaa.Zb
open Go Go.RowKit Go.Shelf Go.Proofs.Ytggfjfmgclcnlaa.K Go.Proofs.Ytggfjfmgclcnlaa.G Go.Proofs.Ytggfjfmgclcnlaa.Z Go.Proofs.YtggfjfmgclcnlaaW.PrintMore
set_option linter.unusedSimpArgs false
set_option linter.unusedVariables false

/-- the lesser and the greater of two, kept whole while one walks -/
def mnI (x y : Int) : Int := if y < x then y else x
def mxI (x y : Int) : Int := if x < y then y else x
theorem min_i (k k' : IntKind) (x y : Int) : Builtin.min2 (.int k x) (.int k' y) = pure (.int k (mnI x y)) := min2_int k k' x y
theorem max_i (k k' : IntKind) (x y : Int) : Builtin.max2 (.int k x) (.int k' y) = pure (.int k (mxI x y)) := max2_int k k' x y
attribute [local go_sem] max_i min_i max_two min_two
theorem alloc_new (w : World) (o : Obj) : (w.alloc o).heap[w.heap.size]? = some o := by
  rw [World.alloc]; simp
theorem Chg.below1 (w : World) : Below w.heap.size w w.drew := ⟨rfl, rfl, rfl, Nat.le_refl _, fun _ _ => rfl⟩
theorem kS_open {S : Nat → Prop} {w : World} {x : Stp} {cs : List Value} (h : kS.K S w x cs) : cs = [.int .i64 x.1, .int .i64 x.2.1, .int .i64 x.2.2] := by
  obtain ⟨_, _, rfl, rfl, _, _, rfl, rfl, rfl⟩ := h
  rfl
theorem kS_mk (S : Nat → Prop) (w : World) (x : Stp) : kS.K S w x [.int .i64 x.1, .int .i64 x.2.1, .int .i64 x.2.2] := ⟨[_], [_, _], rfl, rfl, [_], [_], rfl, rfl, rfl⟩
theorem step_at {S : Nat → Prop} {w : World} {A : Option Addr} {l : List Stp} (h : C kS S w A l) (j : Nat) (hj : j < l.length) : ∃ b o, A = some ⟨b, o, none⟩ ∧ b < w.heap.size ∧ w.cell? ⟨b, o + j * 3, none⟩ = some (.int .i64 (l[j]'hj).1) ∧ w.cell? ⟨b, o + j * 3 + 1, none⟩ = some (.int .i64 (l[j]'hj).2.1) ∧ w.cell? ⟨b, o + j * 3 + 2, none⟩ = some (.int .i64 (l[j]'hj).2.2) := by
  obtain ⟨b, o, cs, e, _, hb, hK, hc⟩ := h.at_ j hj
  obtain rfl := kS_open hK
  exact ⟨b, o, e, hb, hc 0 _ rfl, hc 1 _ rfl, hc 2 _ rfl⟩
theorem cls_at {S : Nat → Prop} {w : World} {A : Option Addr} {l : List Cls} (h : C kL S w A l) (j : Nat) (hj : j < l.length) : ∃ b o A' c', A = some ⟨b, o, none⟩ ∧ b < w.heap.size ∧ w.cell? ⟨b, o + j, none⟩ = some (.slice A' (l[j]'hj).length c') ∧ (l[j]'hj).length ≤ c' ∧ C kI S w A' (l[j]'hj) := by
  obtain ⟨b, o, cs, e, _, hb, ⟨A', c', rfl, h1, h2⟩, hc⟩ := h.at_ j hj
  have e1 : kL.sz = 1 := rfl
  have := hc 0 _ rfl
  rw [e1, Nat.mul_one, Nat.add_zero] at this
  exact ⟨b, o, A', c', e, hb, this, h1, h2⟩
/-- one clause, in a block of its own -/
theorem one_cls {S : Nat → Prop} {w : World} {g : Nat} {t : TypeId} {A : Option Addr} {x : Cls} {cp : Nat} (h : w.heap[g]? = some (.cells #[.slice A x.length cp] t (0, 0))) (hS : S g) (hl : x.length ≤ cp) (hx : C kI S w A x) : C kL S w (some ⟨g, 0, none⟩) [x] :=
  ⟨by simp [maxLen], fun _ => ⟨g, 0, rfl, hS, (Array.getElem?_eq_some_iff.1 h).1, fun j y hj => by
    cases j with
    | succ j => simp at hj
    | zero =>
      simp only [List.getElem?_cons_zero, Option.some.injEq] at hj
      subst hj
      refine ⟨_, ⟨A, cp, rfl, hl, hx⟩, fun i u hu => ?_⟩
      cases i with
      | succ i => simp at hu
      | zero =>
        simp only [List.getElem?_cons_zero, Option.some.injEq] at hu
        subst hu
        simp [World.cell?, h]⟩⟩
theorem run_dropn (w : World) (A : Option Addr) (n c m : Nat) (hm : m ≤ n) : (Instr.slice 34 (.slice A n c) (some (.int .i64 (m : Int))) none none).run Try.prog w = .ok (.slice (if c = m then A else A.map (fun a => a.add m)) (n - m) (c - m)) w := by
  have h1 : (0 : Int) ≤ (m : Int) := by omega
  have h2 : (m : Int) ≤ (n : Int) := by omega
  have hu := Try.underlying34
  cases A <;> simp [Instr.slice, go_sem, hu, h1, h2]
theorem mine_addr {α : Type} {d : Rd α} {base : Nat} {S : Nat → Prop} {w : World} {A : Option Addr} {n c : Nat} {xs : List α} (h : Mine d base S w (.slice A n c) xs) : A = none ∨ ∃ g o, A = some ⟨g, o, none⟩ := by
  obtain ⟨A', cap, e, h1, h2, h3⟩ := h
  injection e with e1 e2 e3
  subst e1
  rcases h3 with ⟨rfl, _⟩ | ⟨g, o, rfl, _⟩
  · exact .inl rfl
  · exact .inr ⟨g, o, rfl⟩
def RpEnd (w : World) (R : List Cls × Int × Int) (e : Ending) (w' : World) : Prop :=
  ∃ A c, e = .returned (.tuple #[.slice A R.1.length c, .int .i64 R.2.1, .int .i64 R.2.2]) ∧ R.1.length ≤ c ∧ C kL Any w' A R.1 ∧ Below w.heap.size w w'
/-- the state of the loop -/
structure RpB (w : World) (v : Value) (all : List Cls) (W : World) : Prop where
  all : Mine kL w.heap.size Any W v all
  below : Below w.heap.size w W
theorem RpB.step {w W W' : World} {v : Value} {all : List Cls} (h : RpB w v all W) (hb : Below W.heap.size W W') : RpB w v all W' := ⟨h.all.below hb, h.below.trans (hb.mono h.below.size)⟩

set_option maxRecDepth 100000 in
set_option maxHeartbeats 4000000 in
theorem replay_calls2 (Sl Sp : Nat → Prop) (Al Ap : Option Addr) (cl cp : Nat) (l : List Cls) (p : List Stp) (w : World) (hl : C kL Sl w Al l) (hcl : l.length ≤ cl) (hp : C kS Sp w Ap p) (hcp : p.length ≤ cp) (hll : l.length ≤ 1000000) (hlc : 500 < l.length ∨ ∀ c ∈ l, c.length ≤ 1000000000) (hpi : ∀ s ∈ p, -9223372036854775808 ≤ s.2.2 ∧ s.2.2 ≤ 9223372036854775807) :
    Calls Try.prog 22 #[.slice Al l.length cl, .slice Ap p.length cp] w (RpEnd w (replB l p)) := by
  have hlm : l.length ≤ 9223372036854775807 := by omega
  have hpm : p.length ≤ 9223372036854775807 := by have := hp.len; simpa [maxLen] using this
  have HL := Lib.hid hl
  have HP := Lib.hid hp
  have HPi := Lib.hid hpi
  have HC := Lib.hid (check_calls2 hl hcl (by omega) hlc)
  have hck : checkL l = 0 → (∀ c ∈ l, rightC c = true) := fun h => (checkL_ok h).2
  generalize hR : replB l p = R
  unfold replB at hR
  have HR := Lib.hid hR
  clear hl hp hpi hR
  by_cases h0 : checkL l = 0
  · have hrt := Lib.hid (hck h0)
    have hl500 := (checkL_ok h0).1
    have hR := HR.out
    rw [if_neg (fun e => e h0)] at hR
    rw [h0] at HC
    have HR := Lib.hid hR
    clear hck h0 hR
    go_enter Try.func22, Try.ntmps22
    go_wp2_with fail
    refine HC.out.mono ?_
    rintro e w1 ⟨rfl, hb1⟩
    have HB1 := Lib.hid hb1
    clear hb1 HC
    by_cases h1 : 20000 < p.length
    · have g1 : (20000 : Int) < (p.length : Int) := by omega
      obtain rfl : (([], 0, 5) : List Cls × Int × Int) = R := by have := HR.out; rwa [if_pos h1] at this
      clear h1 HR
      go_wp2
      go_ret3
      exact ⟨none, 0, rfl, Nat.le_refl _, C.nil .., HB1.out⟩
    · have g1 : ¬ (20000 : Int) < (p.length : Int) := by omega
      have hR := HR.out
      rw [if_neg h1] at hR
      have HR := Lib.hid hR
      have hp20 : p.length ≤ 20000 := by omega
      clear h1 hR
      go_wp2_with fail
      refine (clone_cls (HL.out.below HB1.out) (by omega)).mono ?_
      rintro e w2 ⟨A2, c2, rfl, hm2, hb2⟩
      have hR0 : Hid (RpB w (.slice A2 l.length c2) l w2) := Lib.hid ⟨(hm2.lower HB1.out.size).mono (fun _ _ => trivial), HB1.out.trans (hb2.mono HB1.out.size)⟩
      have HRp : Hid (replF l (p.drop 0) 0 = replF l p 0) := Lib.hid (by rw [List.drop_zero])
      generalize hQ : replF l p 0 = Q at HRp HR
      clear hm2 hb2 hQ HB1
      go_wp2
      go_loopg [8, 25] p.length (fun gg v8 v25 wr => ∃ (i : Nat) (all : List Cls) (A : Option Addr) (c : Nat), v8 = .slice A all.length c ∧ v25 = .int .i64 i ∧ i ≤ p.length ∧ p.length - i ≤ gg ∧ all.length = l.length + i ∧ Hid (replF all (p.drop i) i = Q) ∧ Hid (∀ c ∈ all, rightC c = true) ∧ Hid (RpB w (.slice A all.length c) all wr))
      case atStart => exact ⟨0, l, _, _, rfl, rfl, by omega, by omega, by omega, HRp, hrt, hR0⟩
      case round =>
        clear HRp hR0
        obtain ⟨i, all, A, c, rfl, rfl, hi, hg, hal, HQ, HRt, HX⟩ := hrel
        have hall : all.length ≤ 1000000 := by omega
        by_cases hlt : i < p.length
        · have hltz : (i : Int) < (p.length : Int) := by omega
          have hi0 : (0 : Int) ≤ (i : Int) := by omega
          have Hlt := Lib.hid hlt
          have Hal := Lib.hid hal
          obtain ⟨b6, o6, rfl, hb6, p0, p1, p2⟩ := step_at (HP.out.below HX.out.below) i hlt
          have hpi := HPi.out _ (List.getElem_mem hlt)
          have hq := HQ.out
          rw [List.drop_eq_getElem_cons hlt, replF] at hq
          generalize p[i]'hlt = s at p0 p1 p2 hpi hq
          obtain ⟨sa, sb, st⟩ := s
          dsimp only at p0 p1 p2 hpi
          have hbx : Below wr.heap.size wr (wr.alloc (.cells #[.int .i64 sa, .int .i64 sb, .int .i64 st] 55)) := (Below.refl _ _).alloc (Nat.le_refl _) _
          have HXa := Lib.hid (HX.out.step hbx)
          have hall2 : all.length ≤ 9223372036854775807 := by omega
          by_cases hbad : sa < 0 ∨ sb < 0 ∨ (all.length : Int) ≤ sa ∨ (all.length : Int) ≤ sb
          · have hs1 : step1 all (sa, sb, st) = none := by unfold step1; rw [if_pos hbad]
            rw [hs1] at hq
            have hR := HR.out
            rw [← show ((none, i) : Option (List Cls) × Nat) = Q from hq] at hR
            obtain rfl : (([], (i : Int), 271) : List Cls × Int × Int) = R := hR
            clear hs1 hq HR HQ Hal hal
            by_cases hneg : mnI sa sb < 0
            · clear hbad
              go_wp2
              go_ret3
              exact ⟨none, 0, rfl, Nat.le_refl _, C.nil .., HXa.out.below⟩
            · have hge : (all.length : Int) ≤ mxI sa sb := by unfold mnI at hneg; unfold mxI; split at hneg <;> split <;> omega
              have hge2 : mxI sa sb ≥ (all.length : Int) := hge
              clear hbad
              go_wp2
              go_ret3
              exact ⟨none, 0, rfl, Nat.le_refl _, C.nil .., HXa.out.below⟩
          · obtain ⟨na, rfl⟩ : ∃ n : Nat, sa = (n : Int) := ⟨sa.toNat, by omega⟩
            obtain ⟨nb, rfl⟩ : ∃ n : Nat, sb = (n : Int) := ⟨sb.toNat, by omega⟩
            have hneg : ¬ mnI (na : Int) (nb : Int) < 0 := by unfold mnI; split <;> omega
            have hge : ¬ (all.length : Int) ≤ mxI (na : Int) (nb : Int) := by unfold mxI; split <;> omega
            have hge2 : ¬ mxI (na : Int) (nb : Int) ≥ (all.length : Int) := hge
            have hna : na < all.length := by omega
            have hnb : nb < all.length := by omega
            have hs1 : step1 all ((na : Int), (nb : Int), st) = resB (all[na]'hna) (all[nb]'hnb) st := by
              unfold step1
              rw [if_neg (by simp only; omega)]
              simp only [Int.toNat_natCast]
              rw [List.getD_eq_getElem?_getD, List.getD_eq_getElem?_getD, List.getElem?_eq_getElem hna, List.getElem?_eq_getElem hnb]
              rfl
            rw [hs1] at hq
            have r1 := HRt.out _ (List.getElem_mem hna)
            have r2 := HRt.out _ (List.getElem_mem hnb)
            have hca := HXa.out.all.read.2.2
            obtain ⟨b7, o7, A7, c7, e7, hb7, q7, hl7, hC7⟩ := cls_at hca na hna
            obtain ⟨b8, o8, A8, c8, e8, hb8, q8, hl8, hC8⟩ := cls_at hca nb hnb
            subst e7
            simp only [Option.some.injEq, Addr.mk.injEq, and_true] at e8
            obtain ⟨rfl, rfl⟩ := e8
            have hc0 : (wr.alloc (.cells #[.int .i64 (na : Int), .int .i64 (nb : Int), .int .i64 st] 55)).cell? ⟨wr.heap.size, 0, none⟩ = some (.int .i64 (na : Int)) := by simp only [World.cell?, alloc_new]; rfl
            have hc1 : (wr.alloc (.cells #[.int .i64 (na : Int), .int .i64 (nb : Int), .int .i64 st] 55)).cell? ⟨wr.heap.size, 1, none⟩ = some (.int .i64 (nb : Int)) := by simp only [World.cell?, alloc_new]; rfl
            have hc2 : (wr.alloc (.cells #[.int .i64 (na : Int), .int .i64 (nb : Int), .int .i64 st] 55)).cell? ⟨wr.heap.size, 2, none⟩ = some (.int .i64 st) := by simp only [World.cell?, alloc_new]; rfl
            have hwz : wr.heap.size < (wr.alloc (.cells #[.int .i64 (na : Int), .int .i64 (nb : Int), .int .i64 st] 55)).heap.size := by simp
            have hown := fun k (e : (Value.slice (some ⟨b7, o7, none⟩) all.length c).ownBlock = some k) => (HX.out.all.base_le e).2
            have HRes := Lib.hid (fun (W : World) (hb : Below (wr.alloc (.cells #[.int .i64 (na : Int), .int .i64 (nb : Int), .int .i64 st] 55)).heap.size (wr.alloc (.cells #[.int .i64 (na : Int), .int .i64 (nb : Int), .int .i64 st] 55)) W) => resolvent_calls _ _ A7 A8 c7 c8 (all[na]'hna) (all[nb]'hnb) st W (hC7.below hb) hl7 (hC8.below hb) hl8 r1 r2 hpi.1 hpi.2)
            have hnar : ∀ c, resB (all[na]'hna) (all[nb]'hnb) st = some c → rightC c = true := fun c e => (resB_spec e r1 r2).1
            generalize all[na]'hna = ca at q7 hl7 hC7 HRes hq r1 hnar
            generalize all[nb]'hnb = cb at q8 hl8 hC8 HRes hq r2 hnar
            generalize resB ca cb st = D at HRes hq hnar
            have Hnar := Lib.hid hnar
            have HQ2 := Lib.hid hq
            have k1 : (na : Int) < (all.length : Int) := by omega
            have k2 : (nb : Int) < (all.length : Int) := by omega
            have k3 : (0 : Int) ≤ (na : Int) := by omega
            have k4 : (0 : Int) ≤ (nb : Int) := by omega
            clear hs1 hq hbad r1 r2 hca hC7 hC8 hl7 hl8 hnar HQ hal
            go_upto_region 12 with fail
            generalize hz : wr.alloc (.cells #[.int .i64 (na : Int), .int .i64 (nb : Int), .int .i64 st] 55) = wz at hc0 hc1 hc2 hwz HRes q7 q8 HXa hbx hb7 hb8 ⊢
            clear hz
            generalize wr.heap.size = gz at hc0 hc1 hc2 hwz hown ⊢
            have hs0 : Below wz.heap.size wz wz.drew := Chg.below1 wz
            have HCl := Lib.hid (fun W (h : Below wz.heap.size wz W) => And.intro ((h.cell (p := ⟨gz, 0, none⟩) hwz).trans hc0) (And.intro ((h.cell (p := ⟨gz, 1, none⟩) hwz).trans hc1) (And.intro ((h.cell (p := ⟨gz, 2, none⟩) hwz).trans hc2) (And.intro ((h.cell (p := ⟨b7, o7 + na, none⟩) hb7).trans q7) ((h.cell (p := ⟨b7, o7 + nb, none⟩) hb8).trans q8)))))
            clear p0 p1 p2
            cases D with
            | none =>
              have hq := HQ2.out
              have hR := HR.out
              rw [← show ((none, i) : Option (List Cls) × Nat) = Q from hq] at hR
              obtain rfl : (([], (i : Int), 271) : List Cls × Int × Int) = R := hR
              clear hq HQ2 HR Hnar
              go_region_held3 (fun W' => W'.cell? ⟨gz, 0, none⟩ = some (.int .i64 (na : Int)) ∧ W'.cell? ⟨gz, 1, none⟩ = some (.int .i64 (nb : Int)) ∧ W'.cell? ⟨gz, 2, none⟩ = some (.int .i64 st) ∧ W'.cell? ⟨b7, o7 + na, none⟩ = some (.slice A7 ca.length c7) ∧ W'.cell? ⟨b7, o7 + nb, none⟩ = some (.slice A8 cb.length c8)) (go_keep)
                (first
                  | (go_at_call 42
                     (with_reducible refine (HRes.out _ ?_).mono ?_)
                     (assumption)
                     rintro e w9 ⟨rfl, hb9⟩
                     have hs9 := hs0.trans hb9
                     clear hc0 hc1 hc2 q7 q8
                     obtain ⟨hc0, hc1, hc2, q7, q8⟩ := HCl.out _ hs9))
              all_goals
                go_wp2
                go_ret3
                exact ⟨none, 0, rfl, Nat.le_refl _, C.nil .., HXa.out.below.trans (hs9.mono HXa.out.below.size)⟩
            | some d =>
              have HQn : Hid (replF (all ++ [d]) (p.drop (i + 1)) (i + 1) = Q) := Lib.hid HQ2.out
              have hrd := Hnar.out d rfl
              clear HQ2 Hnar
              go_region_held3 (fun W' => W'.cell? ⟨gz, 0, none⟩ = some (.int .i64 (na : Int)) ∧ W'.cell? ⟨gz, 1, none⟩ = some (.int .i64 (nb : Int)) ∧ W'.cell? ⟨gz, 2, none⟩ = some (.int .i64 st) ∧ W'.cell? ⟨b7, o7 + na, none⟩ = some (.slice A7 ca.length c7) ∧ W'.cell? ⟨b7, o7 + nb, none⟩ = some (.slice A8 cb.length c8)) (go_keep)
                (first
                  | (go_at_call 42
                     (with_reducible refine (HRes.out _ ?_).mono ?_)
                     (assumption)
                     rintro e w9 ⟨⟨A9, c9, rfl, hm9⟩, hb9⟩
                     have hs9 := hs0.trans hb9
                     clear hc0 hc1 hc2 q7 q8
                     obtain ⟨hc0, hc1, hc2, q7, q8⟩ := HCl.out _ hs9))
              all_goals
                have hb10 : Below w9.heap.size w9 (w9.alloc (.cells #[.slice A9 d.length c9] 56)) := (Below.refl _ _).alloc (Nat.le_refl _) _
                have hx9 : C kI (fun k => wz.heap.size ≤ k) w9 A9 d := hm9.read.2.2.mono (fun k hk => hk.elim False.elim (fun e => (hm9.base_le (show (Value.slice A9 d.length c9).ownBlock = some k by cases A9 with | none => cases e | some _ => simpa [Value.ownBlock] using e)).1))
                have hall10 := (HXa.out.all.below hs9).below hb10
                have hsz10 : w.heap.size ≤ (w9.alloc (.cells #[.slice A9 d.length c9] 56)).heap.size := Nat.le_trans HXa.out.below.size (Nat.le_trans hs9.size hb10.size)
                obtain ⟨A', n', c', w', hrun, hn', hm, hg, ho⟩ := append_own (c := 1) (S := Any) (S' := fun k => wz.heap.size ≤ k) Try.underlying34 infoC rfl (by decide) (by decide) hall10 (one_cls (alloc_new _ _) hs9.size hm9.read.2.1 (hx9.below hb10)) (fun k hk => ⟨trivial, fun e => by have := hown k e; omega⟩) (by simp; omega) hsz10
                have hbw : Below w.heap.size w w' := (HXa.out.below.trans ((hs9.trans (hb10.mono hs9.size)).mono HXa.out.below.size)).trans ((Chg.grown hg (fun k e => .inl e) (T := fun k => (Value.slice (some ⟨b7, o7, none⟩) all.length c).ownBlock = some k)).below hsz10 (fun k e => (HXa.out.all.base_le e).1))
                have HXn := Lib.hid (RpB.mk hm hbw)
                have HRun := Lib.hid hrun
                have HRn : Hid (∀ c ∈ all ++ [d], rightC c = true) := Lib.hid (fun c hc => (List.mem_append.1 hc).elim (HRt.out c) (fun h => by rw [List.mem_singleton.1 h]; exact hrd))
                have hln : (all ++ [d]).length = l.length + (i + 1) := by rw [List.length_append, Hal.out]; rfl
                have Hln := Lib.hid hln
                subst hn'
                clear hb10 hx9 hall10 hsz10 hrun hm hg ho hbw hln HX HXa HRes HCl hm9 hc0 hc1 hc2 q7 q8
                go_wp2_with (at_builtin; refine G.wpList_append_run rfl _ _ _ rfl _ _ rfl rfl _ _ HRun.out ?_)
                go_roundg (p.length - (i + 1))
                case measure => omega
                case rel => exact ⟨i + 1, all ++ [d], _, _, by rw [List.length_append]; rfl, by go_num, Hlt.out, Nat.le_refl _, Hln.out, HQn, HRn, HXn⟩
        · have hltz : ¬ (i : Int) < (p.length : Int) := by omega
          have hq := HQ.out
          rw [List.drop_eq_nil_of_le (by omega), replF] at hq
          have hR := HR.out
          rw [← hq] at hR
          obtain rfl : ((all.drop l.length, 0, 0) : List Cls × Int × Int) = R := hR
          have hmd := HX.out.all.drop l.length (by omega)
          have ha := mine_addr HX.out.all
          obtain ⟨A9, hA9⟩ : ∃ A9, (if c = l.length then A else A.map (fun a => a.add l.length)) = A9 := ⟨_, rfl⟩
          have e9 : (if c = l.length then A else A.map (fun a => ⟨a.block, a.off + l.length * kL.sz, none⟩)) = A9 := by
            rw [← hA9]
            rcases ha with rfl | ⟨g, o, rfl⟩
            · rfl
            · by_cases hl0 : l = []
              · subst hl0; simp [Addr.add]
              · simp [Addr.add, hl0, show kL.sz = 1 from rfl]
          rw [e9] at hmd
          have hsl : ∀ W, (Instr.slice 34 (.slice A all.length c) (some (.int .i64 (l.length : Int))) none none).run Try.prog W = .ok (.slice A9 (all.length - l.length) (c - l.length)) W := fun W => by rw [← hA9]; exact run_dropn W A all.length c l.length (by omega)
          have hb9 := HX.out.below
          clear hq HR HQ ha hA9 e9 hal
          go_wp2
          go_ret3
          exact ⟨A9, c - l.length, by rw [List.length_drop]; rfl, by have := hmd.read.2.1; rw [List.length_drop]; exact this, hmd.read.2.2.mono (fun _ _ => trivial), hb9⟩
  · have hR := HR.out
    rw [if_pos h0] at hR
    subst hR
    generalize checkL l = E at h0 HC
    have gE : (E != 0) = true := bne_iff_ne.2 h0
    clear h0 HR hck
    go_enter Try.func22, Try.ntmps22
    go_wp2_with fail
    refine HC.out.mono ?_
    rintro e w1 ⟨rfl, hb1⟩
    have HB1 := Lib.hid hb1
    clear hb1 HC
    go_wp2
    go_ret3
    exact ⟨none, 0, rfl, Nat.le_refl _, C.nil .., HB1.out⟩
theorem replay_calls (Sl Sp : Nat → Prop) (Al Ap : Option Addr) (cl cp : Nat) (l : List Cls) (p : List Stp) (w : World) (hl : C kL Sl w Al l) (hcl : l.length ≤ cl) (hp : C kS Sp w Ap p) (hcp : p.length ≤ cp) (hll : l.length ≤ 1000000) (hlc : ∀ c ∈ l, c.length ≤ 1000000000) (hpi : ∀ s ∈ p, -9223372036854775808 ≤ s.2.2 ∧ s.2.2 ≤ 9223372036854775807) :
    Calls Try.prog 22 #[.slice Al l.length cl, .slice Ap p.length cp] w (RpEnd w (replB l p)) := replay_calls2 Sl Sp Al Ap cl cp l p w hl hcl hp hcp hll (.inr hlc) hpi
end Go.Proofs.Ytggfjfmgclcnlaa.Zb
