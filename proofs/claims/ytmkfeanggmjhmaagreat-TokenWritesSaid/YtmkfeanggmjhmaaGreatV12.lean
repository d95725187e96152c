/- Own walks of the reference of tokens: what its small functions return, as contracts; text. -/
import Derived.Test.YtmkfeanggmjhmaaGreatUa
import Derived.Test.YtmkfeanggmjhmaaGreatK
namespace Go.Proofs.YtmkfeanggmjhmaaGreat.V
open Go Go.RowKit Go.Proofs.YtmkfeanggmjhmaaGreatW.PrintWords Go.Proofs.YtmkfeanggmjhmaaGreatW.PrintLast Go.Proofs.YtmkfeanggmjhmaaGreatW.PrintMore
open Go.Proofs.YtmkfeanggmjhmaaGreat.M Go.Proofs.YtmkfeanggmjhmaaGreat.E Go.Proofs.YtmkfeanggmjhmaaGreat.L Go.Proofs.YtmkfeanggmjhmaaGreat.PTokenWrites
set_option linter.unusedSimpArgs false
set_option linter.unusedVariables false

theorem below_drawn {w w' : World} (h : Drawn0 w w') : Below w.heap.size w w' := h.below
theorem c_letter (c : Int) (w : World) : Calls Tryz.prog 59 #[.int .u8 c] w fun e w' => e = .returned (.bool (letterB c)) ∧ Below w.heap.size w w' :=
  (triforiumref14_letter.calls c _ w (letter_eq c)).mono fun _ _ ⟨h, d⟩ => ⟨h, below_drawn d⟩
theorem c_digit (c : Int) (w : World) : Calls Tryz.prog 75 #[.int .u8 c] w fun e w' => e = .returned (.bool (digitB c)) ∧ Below w.heap.size w w' :=
  (triforiumref14_digit.calls c _ w (digit_eq c)).mono fun _ _ ⟨h, d⟩ => ⟨h, below_drawn d⟩
theorem c_ident (s : ByteArray) (i : Nat) (hs : s.size ≤ 1000000000) (hi : i ≤ 1000000002) (w : World) : Calls Tryz.prog 51 #[.string s, .int .i64 i] w fun e w' => e = .returned (.int .i64 (identE s i)) ∧ Below w.heap.size w w' := by
  obtain ⟨k, hk⟩ := (ident_ev s i (by omega) (by omega)).at_
  exact (triforiumref14_ident.calls k s i _ w hk).mono fun _ _ ⟨h, d⟩ => ⟨h, below_drawn d⟩
theorem c_named (s : ByteArray) (i : Nat) (hs : s.size ≤ 1000000000) (hi : i ≤ s.size) (w : World) : Calls Tryz.prog 54 #[.string s, .int .i64 i] w fun e w' => e = .returned (.int .i64 (namedE s i)) ∧ Below w.heap.size w w' := by
  obtain ⟨k, hk⟩ := (named_ev s hs i hi).at_
  exact (triforiumref14_named.calls k s i _ w hk).mono fun _ _ ⟨h, d⟩ => ⟨h, below_drawn d⟩
theorem c_signs (s : ByteArray) (i : Nat) (hs : s.size ≤ 1000000000) (hi : i ≤ 2000000000) (w : World) : Calls Tryz.prog 52 #[.string s, .int .i64 i, .string signT] w fun e w' => e = .returned (.int .i64 (runE s i)) ∧ Below w.heap.size w w' := by
  obtain ⟨k, hk⟩ := (signs_ev s (by omega) i (by omega)).at_
  exact (triforiumref14_run.calls k s i signT _ w hk).mono fun _ _ ⟨h, d⟩ => ⟨h, below_drawn d⟩
theorem c_digits (s : ByteArray) (i : Nat) (hs : s.size ≤ 1000000000) (hi : i ≤ 2000000000) (w : World) : Calls Tryz.prog 52 #[.string s, .int .i64 i, .string digitT] w fun e w' => e = .returned (.int .i64 (whileE digitB s i)) ∧ Below w.heap.size w w' := by
  obtain ⟨k, hk⟩ := (digits_ev s (by omega) i (by omega)).at_
  exact (triforiumref14_run.calls k s i digitT _ w hk).mono fun _ _ ⟨h, d⟩ => ⟨h, below_drawn d⟩
theorem c_has (t : ByteArray) (c : Int) (ht : t.size ≤ 1000000000) (w : World) : Calls Tryz.prog 53 #[.string t, .int .u8 c] w fun e w' => e = .returned (.bool (hasB t c)) ∧ Below w.heap.size w w' := by
  obtain ⟨k, hk⟩ := (has_ev t c (by omega)).at_
  exact (triforiumref14_has.calls k t c _ w hk).mono fun _ _ ⟨h, d⟩ => ⟨h, below_drawn d⟩
theorem c_starts (s : ByteArray) (i : Nat) (t : ByteArray) (hs : s.size ≤ 1000000000) (hi : i ≤ s.size) (ht : t.size ≤ 1000000000) (w : World) : Calls Tryz.prog 55 #[.string s, .int .i64 i, .string t] w fun e w' => e = .returned (.bool (preAt s i t.data.toList)) ∧ Below w.heap.size w w' :=
  (triforiumref14_starts.calls s i t _ w (starts_eq s (by omega) i hi t (by omega))).mono fun _ _ ⟨h, d⟩ => ⟨h, below_drawn d⟩

/-- a token and two numbers -/
def tokV (p : Int × ByteArray × Int × Int × Int) : Value := .tuple #[.agg #[.int .i64 p.1, .string p.2.1, .int .i64 p.2.2.1], .int .i64 p.2.2.2.1, .int .i64 p.2.2.2.2]

theorem put3 {w : World} {g : Nat} {t : TypeId} {a b c : Value} (h : w.heap[g]? = some (.cells #[a, b, c] t (0, 0))) (x y z : Value) :
    (((w.setCell ⟨g, 0, none⟩ x).setCell ⟨g, 1, none⟩ y).setCell ⟨g, 2, none⟩ z).heap[g]? = some (.cells #[x, y, z] t (0, 0)) :=
  blk_put (cs := #[x, y, c]) (blk_put (cs := #[x, b, c]) (blk_put (cs := #[a, b, c]) h 0 _ rfl) 1 _ rfl) 2 _ rfl
theorem below3 {B : Nat} {w0 w : World} {g : Nat} (h : Below B w0 w) (hg : B ≤ g) (x y z : Value) : Below B w0 (((w.setCell ⟨g, 0, none⟩ x).setCell ⟨g, 1, none⟩ y).setCell ⟨g, 2, none⟩ z) := ((h.setCell (p := ⟨g, 0, none⟩) hg _).setCell (p := ⟨g, 1, none⟩) hg _).setCell (p := ⟨g, 2, none⟩) hg _

set_option maxRecDepth 100000 in
set_option maxHeartbeats 4000000 in
theorem text_calls (s : ByteArray) (hs : s.size ≤ 1000000000) (i : Nat) (hi : i < s.size) (w : World) :
    Calls Tryz.prog 56 #[.string s, .int .i64 i] w fun e w' => e = .returned (tokV (txP i (textE s (i + 1) []))) ∧ Below w.heap.size w w' := by
  generalize hR : txP i (textE s (i + 1) []) = R
  have HR := Lib.hid hR
  clear hR
  have hu := Tryz.underlying37
  obtain ⟨W1, hW1⟩ : ∃ W1, w.alloc (.cells #[.int .i64 0, .string ⟨#[]⟩, .int .i64 0] 37) = W1 := ⟨_, rfl⟩
  have HB := Lib.hid (show Below w.heap.size w W1 by rw [← hW1]; exact (Below.refl _ _).alloc (Nat.le_refl _) _)
  have HH := Lib.hid (show W1.heap[w.heap.size]? = some (.cells #[.int .i64 0, .string ⟨#[]⟩, .int .i64 0] 37 (0, 0)) by rw [← hW1]; exact World.alloc_heap_new w _)
  have z0 : W1.cell? ⟨w.heap.size, 0, none⟩ = some (.int .i64 0) := by simp [World.cell?, HH.out]
  have z1 : W1.cell? ⟨w.heap.size, 1, none⟩ = some (.string ⟨#[]⟩) := by simp [World.cell?, HH.out]
  have z2 : W1.cell? ⟨w.heap.size, 2, none⟩ = some (.int .i64 0) := by simp [World.cell?, HH.out]
  have f0 : W1.frozen? ⟨w.heap.size, 0, none⟩ = false := by simp [World.frozen?, HH.out]
  have f1 : W1.frozen? ⟨w.heap.size, 1, none⟩ = false := by simp [World.frozen?, HH.out]
  have f2 : W1.frozen? ⟨w.heap.size, 2, none⟩ = false := by simp [World.frozen?, HH.out]
  go_enter Tryz.func56, Tryz.ntmps56
  go_wp2
  clear hW1
  go_loopg [7, 8] s.size (fun gg v7 v8 wr => ∃ (out : List UInt8) (j : Nat), v7 = .string ⟨out.toArray⟩ ∧ v8 = .int .i64 j ∧ out.length ≤ j ∧ j ≤ 2000000000 ∧ s.size - j ≤ gg ∧ Hid (txP i (textE s j out) = R) ∧ W1 = wr)
  case atStart => exact ⟨[], i + 1, rfl, by go_num, by simp, by omega, by omega, HR, rfl⟩
  case round =>
    clear HR
    obtain ⟨out, j, rfl, rfl, ho, hj, hg, HR, rfl⟩ := hrel
    by_cases hlt : j < s.size
    · have hltz : (j : Int) < (s.size : Int) := by omega
      have hx := (bt_nat s j hlt).symm
      have hr := HR.out
      rw [textE_eq s j out hlt] at hr
      by_cases h34 : bt s j = 34
      · rw [if_neg (by omega), if_pos h34] at hr
        subst hr
        have b1 : (bt s j == 34) = true := beq_iff_eq.2 h34
        have b2 : (bt s j != 34) = false := bne_eq_false_iff_eq.2 h34
        go_wp2
        refine bodyPost_ret (results_ctt rfl _ _ w.heap.size 37 _ (0, 0) _ rfl (put3 HH.out _ _ _) hu rfl (by kernel_rfl)) rfl ?_
        exact ⟨rfl, below3 HB.out (Nat.le_refl _) _ _ _⟩
      · have b1 : (bt s j == 34) = false := beq_eq_false_iff_ne.2 h34
        by_cases h10 : bt s j = 10
        · rw [if_pos h10] at hr
          subst hr
          have b2 : (bt s j == 10) = true := beq_iff_eq.2 h10
          go_wp2
          refine bodyPost_ret (results_ctt rfl _ _ w.heap.size 37 _ (0, 0) _ rfl (put3 HH.out _ _ _) hu rfl (by kernel_rfl)) rfl ?_
          exact ⟨rfl, below3 HB.out (Nat.le_refl _) _ _ _⟩
        · rw [if_neg h10, if_neg h34] at hr
          have b2 : (bt s j == 10) = false := beq_eq_false_iff_ne.2 h10
          by_cases h92 : bt s j = 92
          · rw [if_pos h92] at hr
            have b3 : (bt s j == 92) = true := beq_iff_eq.2 h92
            by_cases hl2 : j + 1 < s.size
            · rw [if_pos hl2] at hr
              have hl3 : ((j : Int) + 1 == (s.size : Int)) = false := beq_eq_false_iff_ne.2 (by omega)
              have hx2 := (bt_nat s (j + 1) hl2).symm
              have HX := Lib.hid (app_one s out (j + 1) hl2)
              have HL := Lib.hid (app_lit out)
              generalize bt s ((j + 1 : Nat) : Int) = c2 at hr hx2 HX
              clear h34 h10 h92
              have p0 : (0 : Int) ≤ (j : Int) + 1 := by omega
              have p1 : (j : Int) + 1 ≤ (j : Int) + 1 + 1 := by omega
              have p2 : (j : Int) + 1 + 1 ≤ (s.size : Int) := by omega
              have t1 : ((j : Int) + 1).toNat = j + 1 := by omega
              have t2 : ((j : Int) + 1 + 1).toNat = j + 1 + 1 := by omega
              have hos : (⟨out.toArray⟩ : ByteArray).size = out.length := by simp [ByteArray.size]
              have q0 : ¬ 9223372036854775807 < (⟨out.toArray⟩ : ByteArray).size + (s.extract (j + 1) (j + 1 + 1)).size := by rw [hos, ByteArray.size_extract]; omega
              have q1 : ¬ 9223372036854775807 < (⟨out.toArray⟩ : ByteArray).size + 1 := by rw [hos]; omega
              have Hos := Lib.hid ho
              have Hjl := Lib.hid hl2
              clear hos ho
              by_cases g34 : c2 = 34
              · subst g34
                rw [if_neg (by decide), if_pos (.inl rfl)] at hr
                have HR := Lib.hid hr
                clear hr
                go_wp2
                go_roundg (s.size - (j + 2))
                case measure => omega
                case rel => exact ⟨_, j + 2, congrArg Value.string HX.out, by go_num, by have := Hos.out; simp; omega, by omega, Nat.le_refl _, HR, rfl⟩
              · by_cases g92 : c2 = 92
                · subst g92
                  rw [if_neg (by decide), if_pos (.inr rfl)] at hr
                  have HR := Lib.hid hr
                  clear hr
                  go_wp2
                  go_roundg (s.size - (j + 2))
                  case measure => omega
                  case rel => exact ⟨_, j + 2, congrArg Value.string HX.out, by go_num, by have := Hos.out; simp; omega, by omega, Nat.le_refl _, HR, rfl⟩
                · by_cases g110 : c2 = 110
                  · subst g110
                    rw [if_pos rfl] at hr
                    have HR := Lib.hid hr
                    clear hr
                    go_wp2
                    go_roundg (s.size - (j + 2))
                    case measure => omega
                    case rel => exact ⟨_, j + 2, congrArg Value.string HL.out, by go_num, by have := Hos.out; simp; omega, by omega, Nat.le_refl _, HR, rfl⟩
                  · rw [if_neg g110, if_neg (by omega)] at hr
                    subst hr
                    have c34 : (c2 == 34) = false := beq_eq_false_iff_ne.2 g34
                    have c92 : (c2 == 92) = false := beq_eq_false_iff_ne.2 g92
                    have c110 : (c2 == 110) = false := beq_eq_false_iff_ne.2 g110
                    have d34 : (c2 != 34) = true := bne_iff_ne.2 g34
                    have d92 : (c2 != 92) = true := bne_iff_ne.2 g92
                    have d110 : (c2 != 110) = true := bne_iff_ne.2 g110
                    go_wp2
                    refine bodyPost_ret (results_ctt rfl _ _ w.heap.size 37 _ (0, 0) _ rfl (put3 HH.out _ _ _) hu rfl (by kernel_rfl)) rfl ?_
                    exact ⟨rfl, below3 HB.out (Nat.le_refl _) _ _ _⟩
            · rw [if_neg hl2] at hr
              subst hr
              have hl3 : ((j : Int) + 1 == (s.size : Int)) = true := beq_iff_eq.2 (by omega)
              go_wp2
              refine bodyPost_ret (results_ctt rfl _ _ w.heap.size 37 _ (0, 0) _ rfl (put3 HH.out _ _ _) hu rfl (by kernel_rfl)) rfl ?_
              exact ⟨rfl, below3 HB.out (Nat.le_refl _) _ _ _⟩
          · rw [if_neg h92] at hr
            have b3 : (bt s j == 92) = false := beq_eq_false_iff_ne.2 h92
            have p0 : (0 : Int) ≤ (j : Int) := by omega
            have p1 : (j : Int) ≤ (j : Int) + 1 := by omega
            have p2 : (j : Int) + 1 ≤ (s.size : Int) := by omega
            have t1 : (j : Int).toNat = j := by omega
            have t2 : ((j : Int) + 1).toNat = j + 1 := by omega
            have hos : (⟨out.toArray⟩ : ByteArray).size = out.length := by simp [ByteArray.size]
            have q0 : ¬ 9223372036854775807 < (⟨out.toArray⟩ : ByteArray).size + (s.extract j (j + 1)).size := by rw [hos, ByteArray.size_extract]; omega
            have HX := Lib.hid (app_one s out j hlt)
            have Hos := Lib.hid ho
            have HR := Lib.hid hr
            clear hos ho hr
            go_wp2
            go_roundg (s.size - (j + 1))
            case measure => omega
            case rel => exact ⟨_, j + 1, congrArg Value.string HX.out, by go_num, by have := Hos.out; simp; omega, by omega, Nat.le_refl _, HR, rfl⟩
    · have hltz : ¬ (j : Int) < (s.size : Int) := by omega
      have hr := HR.out
      rw [textE_end s j out (by omega)] at hr
      subst hr
      go_wp2
      refine bodyPost_ret (results_ctt rfl _ _ w.heap.size 37 _ (0, 0) _ rfl (put3 HH.out _ _ _) hu rfl (by kernel_rfl)) rfl ?_
      exact ⟨rfl, below3 HB.out (Nat.le_refl _) _ _ _⟩
end Go.Proofs.YtmkfeanggmjhmaaGreat.V
namespace Go.Proofs.YtmkfeanggmjhmaaGreat.V
open Go Go.RowKit Go.Proofs.YtmkfeanggmjhmaaGreatW.PrintWords Go.Proofs.YtmkfeanggmjhmaaGreatW.PrintLast Go.Proofs.YtmkfeanggmjhmaaGreatW.PrintMore
open Go.Proofs.YtmkfeanggmjhmaaGreat.M Go.Proofs.YtmkfeanggmjhmaaGreat.E Go.Proofs.YtmkfeanggmjhmaaGreat.L Go.Proofs.YtmkfeanggmjhmaaGreat.PTokenWrites
set_option linter.unusedSimpArgs false
set_option linter.unusedVariables false

theorem c_open (s : ByteArray) (i : Nat) (hs : s.size ≤ 1000000000) (hi : i ≤ s.size) (w : World) : Calls Tryz.prog 55 #[.string s, .int .i64 i, .string ⟨#[92, 60, 111, 112, 101, 110, 62]⟩] w fun e w' => e = .returned (.bool (preAt s i opened)) ∧ Below w.heap.size w w' := c_starts s i _ hs hi (by decide) w
theorem c_close (s : ByteArray) (i : Nat) (hs : s.size ≤ 1000000000) (hi : i ≤ s.size) (w : World) : Calls Tryz.prog 55 #[.string s, .int .i64 i, .string ⟨#[92, 60, 99, 108, 111, 115, 101, 62]⟩] w fun e w' => e = .returned (.bool (preAt s i closed)) ∧ Below w.heap.size w w' := c_starts s i _ hs hi (by decide) w

theorem tok_cells {W : World} {g : Nat} {a b c : Value} {t : TypeId} (h : W.heap[g]? = some (.cells #[a, b, c] t (0, 0))) :
    W.cell? ⟨g, 0, none⟩ = some a ∧ W.cell? ⟨g, 1, none⟩ = some b ∧ W.cell? ⟨g, 2, none⟩ = some c ∧ W.frozen? ⟨g, 0, none⟩ = false ∧ W.frozen? ⟨g, 1, none⟩ = false ∧ W.frozen? ⟨g, 2, none⟩ = false := by
  simp [World.cell?, World.frozen?, h]

def quP (i : Nat) (s : ByteArray) : Option Nat → Int × ByteArray × Int × Int × Int
  | some e => (9, s.extract (i + 7) (e - 8), i, e, 0)
  | none => (0, ⟨#[]⟩, 0, i, 161)

set_option maxRecDepth 100000 in
set_option maxHeartbeats 4000000 in
theorem quoted_calls (s : ByteArray) (hs : s.size ≤ 1000000000) (i : Nat) (hi : i < s.size) (hp : preAt s i opened = true) (w : World) :
    Calls Tryz.prog 57 #[.string s, .int .i64 i] w fun e w' => e = .returned (tokV (quP i s (nestE s opened closed i 0))) ∧ Below w.heap.size w w' := by
  have hD : stepD s opened closed i = 1 := by unfold stepD; rw [if_pos hp]
  have hW : stepW s opened closed i = 7 := by unfold stepW; rw [if_pos hp]; rfl
  have h8 : i + 7 ≤ s.size := preAt_le hp (by omega)
  rw [nestE_step _ _ _ (by decide) (by decide) _ _ hi (by rw [hD]; omega), hD, hW]
  generalize hR : quP i s (nestE s opened closed (i + 7) (0 + 1)) = R
  have HR := Lib.hid (show quP i s (nestE s opened closed (i + 7) ((1 : Nat) : Int)) = R from hR)
  clear hR hD hW hp
  have hu := Tryz.underlying37
  obtain ⟨W1, hW1⟩ : ∃ W1, w.alloc (.cells #[.int .i64 0, .string ⟨#[]⟩, .int .i64 0] 37) = W1 := ⟨_, rfl⟩
  have HB := Lib.hid (show Below w.heap.size w W1 by rw [← hW1]; exact (Below.refl _ _).alloc (Nat.le_refl _) _)
  have HH := Lib.hid (show W1.heap[w.heap.size]? = some (.cells #[.int .i64 0, .string ⟨#[]⟩, .int .i64 0] 37 (0, 0)) by rw [← hW1]; exact World.alloc_heap_new w _)
  have hlt1 : w.heap.size < W1.heap.size := by rw [← hW1]; simp
  go_enter Tryz.func57, Tryz.ntmps57
  go_wp2
  clear hW1
  go_loopg [7, 8] s.size (fun gg v7 v8 wr => ∃ deep j : Nat, v7 = .int .i64 deep ∧ v8 = .int .i64 j ∧ 1 ≤ deep ∧ deep ≤ j ∧ i + 7 ≤ j ∧ j ≤ 2000000000 ∧ s.size - j ≤ gg ∧ Hid (quP i s (nestE s opened closed j (deep : Int)) = R) ∧ Hid (Below W1.heap.size W1 wr))
  case atStart => exact ⟨1, i + 7, rfl, by go_num, Nat.le_refl _, by omega, Nat.le_refl _, by omega, by omega, HR, Lib.hid (Below.refl _ _)⟩
  case round =>
    clear HR
    obtain ⟨deep, j, rfl, rfl, h1, hdj, hij, hj, hg, HR, HBr⟩ := hrel
    have hBw : Below w.heap.size w wr := HB.out.trans (HBr.out.mono HB.out.size)
    have HHr := Lib.hid ((HBr.out.block _ hlt1).trans HH.out)
    by_cases hlt : j < s.size
    · have hltz : (j : Int) < (s.size : Int) := by omega
      have HO := Lib.hid (c_open s j hs (by omega) wr)
      have HCl := Lib.hid (fun W => c_close s j hs (by omega) W)
      have HBw := Lib.hid hBw
      clear hBw
      cases hb : preAt s j opened with
      | true =>
        have hD : stepD s opened closed j = 1 := by unfold stepD; rw [if_pos hb]
        have hW : stepW s opened closed j = 7 := by unfold stepW; rw [if_pos hb]; rfl
        have hr := HR.out
        rw [nestE_step _ _ _ (by decide) (by decide) _ _ hlt (by rw [hD]; omega), hD, hW] at hr
        have HR := Lib.hid (show quP i s (nestE s opened closed (j + 7) ((deep + 1 : Nat) : Int)) = R from hr)
        rw [hb] at HO
        clear hr hD hW hb
        go_wp2_with fail
        refine HO.out.mono ?_
        rintro e w2 ⟨rfl, hb2⟩
        have HB2 := Lib.hid (HBr.out.trans (hb2.mono HBr.out.size))
        clear hb2
        go_wp2
        go_roundg (s.size - (j + 7))
        case measure => omega
        case rel => exact ⟨deep + 1, j + 7, by go_num, by go_num, by omega, by omega, by omega, by omega, Nat.le_refl _, HR, HB2⟩
      | false =>
        rw [hb] at HO
        cases he : preAt s j closed with
        | true =>
          have hle : j + 8 ≤ s.size := preAt_le he (by omega)
          have hD : stepD s opened closed j = -1 := by unfold stepD; rw [if_neg (by rw [hb]; decide), if_pos he]
          have hW : stepW s opened closed j = 8 := by unfold stepW; rw [if_neg (by rw [hb]; decide), if_pos he]; rfl
          have hr := HR.out
          rw [he] at HCl
          by_cases hz : deep = 1
          · subst hz
            rw [nestE_stop _ _ _ _ _ hlt (by rw [hD]; rfl), hW] at hr
            simp only [quP, Nat.add_sub_cancel] at hr
            subst hr
            clear hD hW hb he
            go_wp2_with fail
            refine HO.out.mono ?_
            rintro e w2 ⟨rfl, hb2⟩
            have HB2 := Lib.hid (HBr.out.trans (hb2.mono HBr.out.size))
            clear hb2
            go_wp2_with fail
            refine (HCl.out _).mono ?_
            rintro e w3 ⟨rfl, hb3⟩
            have HB3 := Lib.hid (HB2.out.trans (hb3.mono HB2.out.size))
            clear hb3
            have HH3 := Lib.hid ((HB3.out.block _ hlt1).trans HH.out)
            obtain ⟨z0, z1, z2, f0, f1, f2⟩ := tok_cells HH3.out
            have p0 : (0 : Int) ≤ (i : Int) + 7 := by omega
            have p1 : (i : Int) + 7 ≤ (j : Int) := by omega
            have p2 : (j : Int) ≤ (s.size : Int) := by omega
            have t1 : ((i : Int) + 7).toNat = i + 7 := by omega
            go_wp2
            refine bodyPost_ret (results_ctt rfl _ _ w.heap.size 37 _ (0, 0) _ rfl (put3 HH3.out _ _ _) hu rfl (by kernel_rfl)) rfl ?_
            exact ⟨rfl, below3 (HB.out.trans (HB3.out.mono HB.out.size)) (Nat.le_refl _) _ _ _⟩
          · have hd2 : (deep : Int) + stepD s opened closed j = ((deep - 1 : Nat) : Int) := by rw [hD]; omega
            rw [nestE_step _ _ _ (by decide) (by decide) _ _ hlt (by rw [hd2]; omega), hd2, hW] at hr
            have HR := Lib.hid hr
            have hdz : ((deep : Int) - 1 == 0) = false := beq_eq_false_iff_ne.2 (by omega)
            have hdn : ¬ (deep : Int) - 1 = 0 := by omega
            clear hr hD hW hb he hd2
            go_wp2_with fail
            refine HO.out.mono ?_
            rintro e w2 ⟨rfl, hb2⟩
            have HB2 := Lib.hid (HBr.out.trans (hb2.mono HBr.out.size))
            clear hb2
            go_wp2_with fail
            refine (HCl.out _).mono ?_
            rintro e w3 ⟨rfl, hb3⟩
            have HB3 := Lib.hid (HB2.out.trans (hb3.mono HB2.out.size))
            clear hb3
            go_wp2
            go_roundg (s.size - (j + 8))
            case measure => omega
            case rel => exact ⟨deep - 1, j + 8, by congr 1; omega, by go_num, by omega, by omega, by omega, by omega, Nat.le_refl _, HR, HB3⟩
        | false =>
          have hD : stepD s opened closed j = 0 := by unfold stepD; rw [if_neg (by rw [hb]; decide), if_neg (by rw [he]; decide)]
          have hW : stepW s opened closed j = 1 := by unfold stepW; rw [if_neg (by rw [hb]; decide), if_neg (by rw [he]; decide)]
          have hr := HR.out
          rw [nestE_step _ _ _ (by decide) (by decide) _ _ hlt (by rw [hD]; omega), hD, hW, Int.add_zero] at hr
          have HR := Lib.hid hr
          rw [he] at HCl
          clear hr hD hW hb he
          go_wp2_with fail
          refine HO.out.mono ?_
          rintro e w2 ⟨rfl, hb2⟩
          have HB2 := Lib.hid (HBr.out.trans (hb2.mono HBr.out.size))
          clear hb2
          go_wp2_with fail
          refine (HCl.out _).mono ?_
          rintro e w3 ⟨rfl, hb3⟩
          have HB3 := Lib.hid (HB2.out.trans (hb3.mono HB2.out.size))
          clear hb3
          go_wp2
          go_roundg (s.size - (j + 1))
          case measure => omega
          case rel => exact ⟨deep, j + 1, rfl, by go_num, by omega, by omega, by omega, by omega, Nat.le_refl _, HR, HB3⟩
    · have hltz : ¬ (j : Int) < (s.size : Int) := by omega
      have hr := HR.out
      rw [nestE_end _ _ _ _ _ (by omega)] at hr
      subst hr
      obtain ⟨z0, z1, z2, f0, f1, f2⟩ := tok_cells HHr.out
      have HBw := Lib.hid hBw
      clear hBw
      go_wp2
      refine bodyPost_ret (results_ctt rfl _ _ w.heap.size 37 _ (0, 0) _ rfl (put3 HHr.out _ _ _) hu rfl (by kernel_rfl)) rfl ?_
      exact ⟨rfl, below3 HBw.out (Nat.le_refl _) _ _ _⟩

set_option maxHeartbeats 2000000 in
theorem index_calls (s : ByteArray) (hs : s.size ≤ 1000000000) (i : Nat) (hi : i ≤ s.size) (w : World) :
    Calls Tryz.prog 76 #[.string s, .int .i64 i] w fun e w' => e = .returned (.int .i64 (indexE s i)) ∧ Below w.heap.size w w' := by
  have HDg := Lib.hid (fun (z : Int) (n : Nat) W (hz : z = n) (hn : n ≤ 2000000000) => (by subst hz; exact c_digits s n hs hn W : Calls Tryz.prog 52 #[.string s, .int .i64 z, .string digitT] W fun e w' => e = .returned (.int .i64 (whileE digitB s n)) ∧ Below W.heap.size W w'))
  by_cases hlt : i < s.size
  · have hltz : (i : Int) < (s.size : Int) := by omega
    have hx := (bt_nat s i hlt).symm
    have hmin : ¬ (s.size : Int) < (i : Int) + 1 := by omega
    generalize hR : indexE s i = R
    unfold indexE at hR
    rw [if_pos hlt] at hR
    have HDg := Lib.hid (HDg.out ((i : Int) + 1) (i + 1) w (by omega) (by omega))
    generalize whileE digitB s (i + 1) = e at HDg hR
    cases hd : decide (bt s i = 46) with
    | true =>
      have h46 := of_decide_eq_true hd
      have b1 : (bt s i == 46) = true := beq_iff_eq.2 h46
      rw [if_pos h46] at hR
      by_cases hg : i + 1 < e
      · rw [if_pos hg] at hR
        subst hR
        have hgz : (i : Int) + 1 < (e : Int) := by omega
        go_enter Tryz.func76, Tryz.ntmps76
        go_wp2_with fail
        refine HDg.out.mono ?_
        rintro e w2 ⟨rfl, hb2⟩
        have HB2 := Lib.hid hb2
        clear hb2 HDg
        go_wp2
        go_ret
        exact ⟨rfl, HB2.out⟩
      · rw [if_neg hg] at hR
        subst hR
        have hgz : ¬ (i : Int) + 1 < (e : Int) := by omega
        go_enter Tryz.func76, Tryz.ntmps76
        go_wp2_with fail
        refine HDg.out.mono ?_
        rintro e w2 ⟨rfl, hb2⟩
        have HB2 := Lib.hid hb2
        clear hb2 HDg
        go_wp2
        go_ret
        exact ⟨rfl, HB2.out⟩
    | false =>
      have h46 := of_decide_eq_false hd
      have b1 : (bt s i == 46) = false := beq_eq_false_iff_ne.2 h46
      rw [if_neg h46] at hR
      subst hR
      go_enter Tryz.func76, Tryz.ntmps76
      go_wp2_with fail
      refine HDg.out.mono ?_
      rintro e w2 ⟨rfl, hb2⟩
      have HB2 := Lib.hid hb2
      clear hb2 HDg
      go_wp2
      go_ret
      exact ⟨rfl, HB2.out⟩
  · have hltz : ¬ (i : Int) < (s.size : Int) := by omega
    have hmin : (s.size : Int) < (i : Int) + 1 := by omega
    have hR : indexE s i = i := by unfold indexE; rw [if_neg hlt]
    rw [hR]
    have HDg := Lib.hid (HDg.out (s.size : Int) s.size w rfl (by omega))
    clear hR
    go_enter Tryz.func76, Tryz.ntmps76
    go_wp2_with fail
    refine HDg.out.mono ?_
    rintro e w2 ⟨rfl, hb2⟩
    have HB2 := Lib.hid hb2
    clear hb2 HDg
    go_wp2
    go_ret
    exact ⟨rfl, HB2.out⟩
end Go.Proofs.YtmkfeanggmjhmaaGreat.V
