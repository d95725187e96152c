/- Walks of the solver: next. -/
import Derived.Test.YtggfjfmgclcnlaaZhi
import Derived.Test.YtggfjfmgclcnlaaZa
import Derived.WalkMore
import Derived.BigQuiet
import Derived.Deep.RegionHeld3
namespace Go.Proofs.Ytggfjfmgclcnlaa.Zb
open Go Go.RowKit Go.Shelf Go.Proofs.Ytggfjfmgclcnlaa.K Go.Proofs.Ytggfjfmgclcnlaa.G Go.Proofs.Ytggfjfmgclcnlaa.Z
set_option linter.unusedSimpArgs false
set_option linter.unusedVariables false

/-- what next reads of the solver in block sp: how many literals of each clause hold (block gh), and how many are open (block go) -/
structure NxS (W : World) (sp gh go : Nat) (l : List Cls) (v : List Int) : Prop where
  given : W.cell? ⟨sp, 1, none⟩ = some (.int .i64 (l.length : Int))
  heldS : W.cell? ⟨sp, 4, none⟩ = some (.slice (some ⟨gh, 0, none⟩) l.length l.length)
  openS : W.cell? ⟨sp, 5, none⟩ = some (.slice (some ⟨go, 0, none⟩) l.length l.length)
  held : W.rowIs gh 3 l.length (fun j => .int .i64 (heldN v (l.getD j [])))
  opn : W.rowIs go 3 l.length (fun j => .int .i64 (openN v (l.getD j [])))
theorem NxS.drewN {W : World} {sp gh go : Nat} {l : List Cls} {v : List Int} (h : NxS W sp gh go l v) (k : Nat) : NxS (W.drewN k) sp gh go l v := ⟨h.given, h.heldS, h.openS, h.held, h.opn⟩
theorem drewN_more {w wr : World} (h : ∃ k, wr = w.drewN k) (n : Nat) : ∃ k, wr.drewN n = w.drewN k := by
  obtain ⟨k, rfl⟩ := h
  exact ⟨k + n, by simp [World.drewN, Nat.add_assoc]⟩
def atI (b : Option (Nat × Nat)) : Int := match b with | none => -1 | some q => (q.1 : Int)

set_option maxRecDepth 100000 in
set_option maxHeartbeats 4000000 in
theorem next_calls (sp gh go : Nat) (l : List Cls) (v : List Int) (w : World) (h : NxS w sp gh go l v) (hl : l.length ≤ 500) :
    Calls Try.prog 44 #[.pointer (some ⟨sp, 0, none⟩)] w fun e w' => e = .returned (.tuple #[.int .i64 (atI (nextF v l 0 none)), .bool (nextF v l 0 none).isSome]) ∧ ∃ k, w' = w.drewN k := by
  have hlm : l.length ≤ 9223372036854775807 := by omega
  have g1 := h.given
  have HH := Lib.hid h
  generalize hR : nextF v l 0 none = R
  have HR : Hid (nextF v (l.drop 0) 0 none = R) := Lib.hid hR
  clear h hR
  go_enter Try.func44, Try.ntmps44
  go_wp2_with fail
  go_step3
  go_wp2_with fail
  go_step3
  go_wp2_with fail
  go_loopg [4, 10] l.length (fun gg v4 v10 wr => ∃ (i : Nat) (b : Option (Nat × Nat)), v4 = .int .i64 (atI b) ∧ v10 = .int .i64 i ∧ i ≤ l.length ∧ l.length - i ≤ gg ∧ Hid (nextF v (l.drop i) i b = R) ∧ Hid (∀ q, b = some q → q.1 < l.length ∧ openN v (l.getD q.1 []) = q.2) ∧ Hid (NxS wr sp gh go l v) ∧ Hid (∃ k, wr = w.drewN k))
  case atStart => exact ⟨0, none, rfl, rfl, by omega, by omega, HR, Lib.hid (fun q e => by cases e), HH, Lib.hid ⟨0, rfl⟩⟩
  case round =>
    obtain ⟨i, b, rfl, rfl, hi, hgg, HF, HB, HS, HD⟩ := hrel
    by_cases hlt : i < l.length
    · have hltz : (i : Int) < (l.length : Int) := by omega
      have hi0 : (0 : Int) ≤ (i : Int) := by omega
      have Hlt := Lib.hid hlt
      have c4 := HS.out.heldS
      have c5 := HS.out.openS
      have q1 := HS.out.held.cell hlt
      have q2 := HS.out.opn.cell hlt
      have hF := HF.out
      rw [List.drop_eq_getElem_cons hlt, nextF] at hF
      rw [show l.getD i [] = l[i]'hlt by rw [List.getD_eq_getElem?_getD, List.getElem?_eq_getElem hlt]; rfl] at q1 q2
      have HO : Hid (openN v (l.getD i []) = openN v (l[i]'hlt)) := Lib.hid (by rw [List.getD_eq_getElem?_getD, List.getElem?_eq_getElem hlt]; rfl)
      generalize heldN v (l[i]'hlt) = hn at q1 hF
      generalize openN v (l[i]'hlt) = on at q2 hF HO
      clear HF
      by_cases h1 : 0 < hn
      · rw [if_pos h1] at hF
        have HF := Lib.hid hF
        have k1 : (hn : Int) > 0 := by omega
        have k1' : (0 : Int) < (hn : Int) := by omega
        clear h1 hF
        go_wp2
        go_roundg (l.length - (i + 1))
        case measure => omega
        case rel => exact ⟨i + 1, b, rfl, by go_num, Hlt.out, Nat.le_refl _, HF, HB, HS, HD⟩
      · rw [if_neg h1] at hF
        have k1 : ¬ (hn : Int) > 0 := by omega
        have k1' : ¬ (0 : Int) < (hn : Int) := by omega
        by_cases h2 : on = 0
        · subst h2
          rw [if_pos rfl] at hF
          subst hF
          clear h1
          go_wp2
          go_ret2
          exact ⟨rfl, HD.out⟩
        · rw [if_neg h2] at hF
          have k2 : ((on : Int) == 0) = false := beq_eq_false_iff_ne.2 (by omega)
          have hne : on ≠ 0 := h2
          cases b with
          | none =>
            have HF := Lib.hid (show nextF v (l.drop (i + 1)) (i + 1) (some (i, on)) = R from hF)
            have HBn : Hid (∀ q : Nat × Nat, some (i, on) = some q → q.1 < l.length ∧ openN v (l.getD q.1 []) = q.2) := Lib.hid (fun q e => by cases e; exact ⟨Hlt.out, HO.out⟩)
            clear h1 h2 hF hne
            have e1 : atI none = -1 := rfl
            rw [e1]
            go_upto_region 8 with fail
            go_quiet (fail)
            go_wp2
            go_roundg (l.length - (i + 1))
            case measure => omega
            case rel => exact ⟨i + 1, some (i, on), rfl, by go_num, Hlt.out, Nat.le_refl _, HF, HBn, Lib.hid (HS.out.drewN _), Lib.hid (drewN_more HD.out _)⟩
          | some q =>
            obtain ⟨qi, qo⟩ := q
            have hq := HB.out _ rfl
            dsimp only at hq
            have q3 := HS.out.opn.cell hq.1
            rw [hq.2] at q3
            have m0 : (0 : Int) ≤ (qi : Int) := by omega
            have m1 : (qi : Int) < (l.length : Int) := by omega
            have m2 : decide ((qi : Int) < 0) = false := decide_eq_false (by omega)
            by_cases h3 : on < qo
            · have HF := Lib.hid (show nextF v (l.drop (i + 1)) (i + 1) (some (i, on)) = R from by rw [← hF, betterB, if_pos h3])
              have HBn : Hid (∀ q : Nat × Nat, some (i, on) = some q → q.1 < l.length ∧ openN v (l.getD q.1 []) = q.2) := Lib.hid (fun q e => by cases e; exact ⟨Hlt.out, HO.out⟩)
              have m3 : decide ((on : Int) < (qo : Int)) = true := decide_eq_true (by omega)
              have k3 : (on : Int) < (qo : Int) := by omega
              have k4 : on < qo := h3
              clear h1 h2 hF hne h3 hq
              have e1 : atI (some (qi, qo)) = (qi : Int) := rfl
              rw [e1]
              go_upto_region 8 with fail
              go_quiet (fail)
              go_wp2
              go_roundg (l.length - (i + 1))
              case measure => omega
              case rel => exact ⟨i + 1, some (i, on), rfl, by go_num, Hlt.out, Nat.le_refl _, HF, HBn, Lib.hid (HS.out.drewN _), Lib.hid (drewN_more HD.out _)⟩
            · have HF := Lib.hid (show nextF v (l.drop (i + 1)) (i + 1) (some (qi, qo)) = R from by rw [← hF, betterB, if_neg h3])
              have m3 : decide ((on : Int) < (qo : Int)) = false := decide_eq_false (by omega)
              have k3 : ¬ (on : Int) < (qo : Int) := by omega
              have k4 : ¬ on < qo := h3
              clear h1 h2 hF hne h3 hq
              have e1 : atI (some (qi, qo)) = (qi : Int) := rfl
              rw [e1]
              go_upto_region 8 with fail
              go_quiet (fail)
              go_wp2
              go_roundg (l.length - (i + 1))
              case measure => omega
              case rel => exact ⟨i + 1, some (qi, qo), rfl, by go_num, Hlt.out, Nat.le_refl _, HF, HB, Lib.hid (HS.out.drewN _), Lib.hid (drewN_more HD.out _)⟩
    · have hltz : ¬ (i : Int) < (l.length : Int) := by omega
      have hF := HF.out
      rw [List.drop_eq_nil_of_le (by omega), nextF] at hF
      subst hF
      cases b with
      | none =>
        go_wp2
        go_ret2
        exact ⟨rfl, HD.out⟩
      | some q =>
        have k1 : ((q.1 : Nat) : Int) ≥ 0 := by omega
        have e1 : atI (some q) = ((q.1 : Nat) : Int) := rfl
        rw [e1]
        go_wp2
        go_ret2
        exact ⟨rfl, HD.out⟩
end Go.Proofs.Ytggfjfmgclcnlaa.Zb
namespace Go.Proofs.Ytggfjfmgclcnlaa.Zb
open Go Go.RowKit Go.Shelf Go.Proofs.Ytggfjfmgclcnlaa.K Go.Proofs.Ytggfjfmgclcnlaa.G Go.Proofs.Ytggfjfmgclcnlaa.Z Go.Proofs.Ytggfjfmgclcnlaa.Ix
set_option linter.unusedSimpArgs false
set_option linter.unusedVariables false

set_option maxRecDepth 100000 in
set_option maxHeartbeats 2000000 in
theorem free1_calls (bx sp gv : Nat) (v : List Int) (x : Int) (w : World) (hb : w.cell? ⟨bx, 0, none⟩ = some (.pointer (some ⟨sp, 0, none⟩))) (hv : w.cell? ⟨sp, 6, none⟩ = some (.slice (some ⟨gv, 0, none⟩) 61 61)) (row : w.rowIs gv 3 61 (fun j => .int .i64 (v.getD j 0))) (hx : Z.Lit x) :
    Calls Try.prog 57 #[.int .i64 x, .pointer (some ⟨bx, 0, none⟩)] w fun e w' => e = .returned (.bool (v.getD x.natAbs 0 == 0)) ∧ Below w.heap.size w w' := by
  obtain ⟨x0, x1, x2⟩ := hx
  have ea : atm x = ((x.natAbs : Nat) : Int) := by unfold atm; split <;> omega
  have HAt := Lib.hid (fun (W : World) => atom_calls x W (by omega) (by omega))
  rw [ea] at HAt
  have hlt : x.natAbs < 61 := by omega
  have c := row.cell hlt
  have hz : ((x.natAbs : Nat) : Int) < 61 := by omega
  have hz0 : (0 : Int) ≤ ((x.natAbs : Nat) : Int) := by omega
  have Hrow := Lib.hid row
  generalize v.getD x.natAbs 0 = y at c ⊢
  clear row
  go_enter Try.func57, Try.ntmps57
  go_upto_region 1 with fail
  go_region_held3 (fun W' => W'.cell? ⟨bx, 0, none⟩ = some (.pointer (some ⟨sp, 0, none⟩)) ∧ W'.cell? ⟨sp, 6, none⟩ = some (.slice (some ⟨gv, 0, none⟩) 61 61) ∧ W'.cell? ⟨gv, x.natAbs, none⟩ = some (.int .i64 y)) (go_keep)
    (first
      | (go_at_call 35
         (with_reducible refine (HAt.out _).mono ?_)
         rintro e w9 ⟨rfl, rfl⟩))
  all_goals
    go_wp2
    go_ret
    exact ⟨rfl, Chg.below1 w⟩
theorem lv0 (v : List Int) (x : Int) : (lv v x == 0) = (v.getD x.natAbs 0 == 0) := by
  unfold lv
  split
  · generalize v.getD x.natAbs 0 = y
    by_cases h : y = 0
    · subst h; rfl
    · rw [beq_eq_false_iff_ne.2 h]; exact beq_eq_false_iff_ne.2 (by omega)
  · rfl
theorem free_at {v : List Int} {c : Cls} (h : ∃ x ∈ c, lv v x = 0) : ∃ k, ∃ hk : k < c.length, idxP (fun x => v.getD x.natAbs 0 == 0) c 0 = (k : Int) ∧ freeB v c = c[k]'hk := by
  rcases idxP_range (fun x => v.getD x.natAbs 0 == 0) c 0 with e | ⟨k, hk, e, h1, h2⟩
  · obtain ⟨x, hx, h0⟩ := h
    have ha := idxP_any (fun x => v.getD x.natAbs 0 == 0) c 0
    rw [e] at ha
    have : c.any (fun x => v.getD x.natAbs 0 == 0) = true := List.any_eq_true.2 ⟨x, hx, by rw [← lv0]; exact beq_iff_eq.2 h0⟩
    rw [this] at ha
    exact absurd ha (by decide)
  · refine ⟨k, hk, by rw [e, Nat.zero_add], ?_⟩
    unfold freeB
    have : c.find? (fun x => lv v x == 0) = some (c[k]'hk) := by
      rw [List.find?_eq_some_iff_getElem]
      exact ⟨by rw [lv0]; exact h1, k, hk, rfl, fun j hj => by rw [lv0, h2 j hj]; rfl⟩
    rw [this]
    rfl
set_option maxRecDepth 100000 in
set_option maxHeartbeats 4000000 in
theorem free_calls (sp gv : Nat) (S : Nat → Prop) (Aa : Option Addr) (ca : Nat) (all : List Cls) (v : List Int) (i : Nat) (w : World) (hi : i < all.length) (hs0 : w.cell? ⟨sp, 0, none⟩ = some (.slice Aa all.length ca)) (hC : C kL S w Aa all) (hv : w.cell? ⟨sp, 6, none⟩ = some (.slice (some ⟨gv, 0, none⟩) 61 61)) (hlen : all.length ≤ 1000000)
    (row : w.rowIs gv 3 61 (fun j => .int .i64 (v.getD j 0))) (hlit : ∀ x ∈ all[i]'hi, Z.Lit x) (ho : ∃ x ∈ all[i]'hi, lv v x = 0) :
    Calls Try.prog 45 #[.pointer (some ⟨sp, 0, none⟩), .int .i64 (i : Int)] w fun e w' => e = .returned (.int .i64 (freeB v (all[i]'hi))) ∧ Below w.heap.size w w' := by
  have hmf : ∀ (fn : Fn) (first cap : Array Value) (w : World), (Instr.makeFunc fn first cap).run Try.prog w = .ok (.func fn first cap) w := fun _ _ _ _ => rfl
  obtain ⟨k, hk, ek, ef⟩ := free_at ho
  rw [ef]
  have hb1 : Below w.heap.size w (w.alloc (.cells #[.pointer (some ⟨sp, 0, none⟩)] 70)) := (Below.refl _ _).alloc (Nat.le_refl _) _
  obtain ⟨b7, o7, A7, c7, rfl, hb7, q7, hl7, hC7⟩ := cls_at hC i hi
  obtain ⟨b8, o8, rfl, hb8, q8⟩ := int_at hC7 k hk
  have hsb : sp < w.heap.size := World.block_lt_of_cell? w _ hs0
  have hc0 : (w.alloc (.cells #[.pointer (some ⟨sp, 0, none⟩)] 70)).cell? ⟨w.heap.size, 0, none⟩ = some (.pointer (some ⟨sp, 0, none⟩)) := by simp only [World.cell?, alloc_new]; rfl
  have hbl : w.heap.size < (w.alloc (.cells #[.pointer (some ⟨sp, 0, none⟩)] 70)).heap.size := by simp
  have HF := Lib.hid (IndexFunc_lit kI S rfl (fun x => v.getD x.natAbs 0 == 0) 57 #[.pointer (some ⟨w.heap.size, 0, none⟩)] (enters_of Try.func57 (by kernel_rfl) rfl) (some ⟨b8, o8, none⟩) c7 (all[i]'hi) (w.alloc (.cells #[.pointer (some ⟨sp, 0, none⟩)] 70)) (fun W x cs hx hb hK => by
    have hK' : cs = [.int .i64 x] := hK
    subst hK'
    refine free1_calls w.heap.size sp gv v x W ((hb.cell (p := ⟨w.heap.size, 0, none⟩) hbl).trans hc0) (((hb1.trans (hb.mono hb1.size)).cell (p := ⟨sp, 6, none⟩) hsb).trans hv) (row.of_block ((hb1.trans (hb.mono hb1.size)).block _ row.lt)) (hlit x hx)) (hC7.below hb1) hl7)
  rw [ek] at HF
  have HB1 := Lib.hid hb1
  have s0 := (hb1.cell (p := ⟨sp, 0, none⟩) hsb).trans hs0
  have s7 := (hb1.cell (p := ⟨b7, o7 + i, none⟩) hb7).trans q7
  have HCl := Lib.hid (fun W (h : Below (w.alloc (.cells #[.pointer (some ⟨sp, 0, none⟩)] 70)).heap.size (w.alloc (.cells #[.pointer (some ⟨sp, 0, none⟩)] 70)) W) =>
    And.intro ((h.cell (p := ⟨w.heap.size, 0, none⟩) hbl).trans hc0) (And.intro (((hb1.trans (h.mono hb1.size)).cell (p := ⟨sp, 0, none⟩) hsb).trans hs0) (And.intro (((hb1.trans (h.mono hb1.size)).cell (p := ⟨b7, o7 + i, none⟩) hb7).trans q7) (((hb1.trans (h.mono hb1.size)).cell (p := ⟨b8, o8 + k, none⟩) hb8).trans q8))))
  have hi1 : (i : Int) < (all.length : Int) := by omega
  have hi0 : (0 : Int) ≤ (i : Int) := by omega
  have hk1 : (k : Int) < (((all[i]'hi).length : Nat) : Int) := by omega
  have hk0 : (0 : Int) ≤ (k : Int) := by omega
  generalize (all[i]'hi)[k]'hk = y at HCl ⊢
  have hcl : ((all[i]'hi).length : Nat) ≤ 9223372036854775807 := by have := hC7.len; unfold maxLen at this; omega
  generalize all[i]'hi = cc at s7 HF HCl hk1 hcl
  clear hs0 hC hv row hlit ho hb1 hC7 q7 q8 hc0 ek ef
  go_enter Try.func45, Try.ntmps45
  have hc0 := (HCl.out _ (Below.refl _ _)).1
  go_wp2_with fail
  refine HF.out.mono ?_
  rintro e w5 ⟨rfl, hb5⟩
  obtain ⟨d0, d1, d2, d3⟩ := HCl.out _ hb5
  have HB5 := Lib.hid (HB1.out.trans (hb5.mono HB1.out.size))
  clear hb5 HF HCl s0 s7 hc0
  go_wp2
  go_ret
  exact ⟨rfl, HB5.out⟩
end Go.Proofs.Ytggfjfmgclcnlaa.Zb
