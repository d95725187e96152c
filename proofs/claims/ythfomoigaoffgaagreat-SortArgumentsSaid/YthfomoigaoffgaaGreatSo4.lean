/- Walks of sort: names. -/
import Derived.Test.YthfomoigaoffgaaGreatSo1
import Derived.Lib.ConvBytes
namespace Go.Proofs.YthfomoigaoffgaaGreat.So
open Go Go.RowKit Go.Proofs.YthfomoigaoffgaaGreat.K Go.Proofs.YthfomoigaoffgaaGreat.G Go.Proofs.YthfomoigaoffgaaGreat.Ix Go.Proofs.YthfomoigaoffgaaGreat.O
set_option linter.unusedSimpArgs false
set_option linter.unusedVariables false

def letZ (x : Int) : Bool := decide (97 ≤ x ∧ x ≤ 122) || decide (65 ≤ x ∧ x ≤ 90)
def digZ (x : Int) : Bool := decide (48 ≤ x ∧ x ≤ 57)
theorem letZ_eq (c : UInt8) : letZ (c.toNat : Int) = letB c := by
  unfold letZ letB
  rw [decide_eq_decide.2 (show (97 : Int) ≤ (c.toNat : Int) ∧ (c.toNat : Int) ≤ 122 ↔ 97 ≤ c.toNat ∧ c.toNat ≤ 122 by omega), decide_eq_decide.2 (show (65 : Int) ≤ (c.toNat : Int) ∧ (c.toNat : Int) ≤ 90 ↔ 65 ≤ c.toNat ∧ c.toNat ≤ 90 by omega)]
theorem digZ_eq (c : UInt8) : digZ (c.toNat : Int) = digB c := by
  unfold digZ digB
  exact decide_eq_decide.2 (by omega)
theorem letter_calls (x : Int) (w : World) : Calls Tryz.prog 37 #[.int .u8 x] w fun e w' => e = .returned (.bool (letZ x)) ∧ w = w' := by
  unfold letZ
  by_cases h1 : (97 : Int) ≤ x <;> by_cases h2 : x ≤ 122 <;> by_cases h3 : (65 : Int) ≤ x <;> by_cases h4 : x ≤ 90 <;>
    (go_enter Tryz.func37, Tryz.ntmps37
     go_wp2
     go_ret
     exact ⟨by simp [h1, h2, h3, h4], rfl⟩)
theorem digit_calls (x : Int) (w : World) : Calls Tryz.prog 40 #[.int .u8 x] w fun e w' => e = .returned (.bool (digZ x)) ∧ w = w' := by
  unfold digZ
  by_cases h1 : (48 : Int) ≤ x <;> by_cases h2 : x ≤ 57 <;>
    (go_enter Tryz.func40, Tryz.ntmps40
     go_wp2
     go_ret
     exact ⟨by simp [h1, h2], rfl⟩)
def nameZ (x : Int) : Bool := letZ x || digZ x || x == 95 || x == 39 || x == 46
theorem nameZ_eq (c : UInt8) : nameZ (c.toNat : Int) = nameChar c := by
  unfold nameZ nameChar
  have e : ∀ n : UInt8, ((c.toNat : Int) == (n.toNat : Int)) = (c == n) := fun n => by
    rw [Bool.eq_iff_iff, beq_iff_eq, beq_iff_eq]
    constructor
    · intro h; exact UInt8.toNat_inj.1 (by omega)
    · intro h; rw [h]
  rw [letZ_eq, digZ_eq]
  have e1 := e 95
  have e2 := e 39
  have e3 := e 46
  simp only [show (UInt8.toNat 95 : Int) = 95 from rfl, show (UInt8.toNat 39 : Int) = 39 from rfl, show (UInt8.toNat 46 : Int) = 46 from rfl] at e1 e2 e3
  rw [e1, e2, e3]
theorem name1_calls (x : Int) (w : World) : Calls Tryz.prog 39 #[.int .u8 x] w fun e w' => e = .returned (.bool (!nameZ x)) ∧ w = w' := by
  have HL := Lib.hid (fun w => letter_calls x w)
  have HD := Lib.hid (fun w => digit_calls x w)
  unfold nameZ
  cases h1 : letZ x with
  | true =>
    rw [h1] at HL
    clear h1
    go_enter Tryz.func39, Tryz.ntmps39
    go_wp2_with (go_at_call 37; refine (HL.out _).mono ?_; rintro e w' ⟨rfl, rfl⟩)
    go_ret
    exact ⟨rfl, rfl⟩
  | false =>
    rw [h1] at HL
    clear h1
    cases h2 : digZ x with
    | true =>
      rw [h2] at HD
      clear h2
      go_enter Tryz.func39, Tryz.ntmps39
      go_wp2_with (first | (go_at_call 37; refine (HL.out _).mono ?_; rintro e w' ⟨rfl, rfl⟩) | (go_at_call 40; refine (HD.out _).mono ?_; rintro e w' ⟨rfl, rfl⟩))
      go_ret
      exact ⟨rfl, rfl⟩
    | false =>
      rw [h2] at HD
      clear h2
      cases h3 : x == 95 <;> cases h4 : x == 39 <;> cases h5 : x == 46
      all_goals
        have g3 : (x != 95) = !(x == 95) := rfl
        have g4 : (x != 39) = !(x == 39) := rfl
        have g5 : (x != 46) = !(x == 46) := rfl
        rw [h3] at g3
        rw [h4] at g4
        rw [h5] at g5
        clear h3 h4 h5
        go_enter Tryz.func39, Tryz.ntmps39
        go_wp2_with (first | (go_at_call 37; refine (HL.out _).mono ?_; rintro e w' ⟨rfl, rfl⟩) | (go_at_call 40; refine (HD.out _).mono ?_; rintro e w' ⟨rfl, rfl⟩))
        go_ret
        exact ⟨by simp, rfl⟩
def kByte : Rd UInt8 := scalar (fun c => .int .u8 (c.toNat : Int)) (fun _ => rfl)

set_option maxHeartbeats 1000000 in
theorem IsName_calls (s : ByteArray) (w : World) (hs : s.size ≤ maxLen) : Calls Tryz.prog 18 #[.string s] w fun e w' => e = .returned (.bool (nameB s)) ∧ Below w.heap.size w w' := by
  have htl : s.toList = s.data.toList := Lib.toList_data _
  have hlen : s.data.toList.length = s.size := rfl
  by_cases h0 : s.size = 0
  · have hn : s.data.toList = [] := List.eq_nil_of_length_eq_zero (by omega)
    have e : nameB s = false := by unfold nameB; rw [hn]
    have g0 : (s.toList == []) = true := by rw [htl, hn]; rfl
    have g1 : s.toList = [] := by rw [htl, hn]
    have g2 : s.toList.isEmpty = true := by rw [g1]; rfl
    rw [e]
    clear e htl hlen hn h0
    go_enter Tryz.func18, Tryz.ntmps18
    go_wp2
    go_ret
    exact ⟨rfl, Below.refl _ _⟩
  · have hz : (0 : Int) < (s.size : Int) := by omega
    have hz2 : 0 < s.size := by omega
    obtain ⟨c, r, hcr⟩ : ∃ c r, s.data.toList = c :: r := by
      cases h : s.data.toList with
      | nil => rw [h] at hlen; simp at hlen; omega
      | cons c r => exact ⟨c, r, rfl⟩
    have hc0 : s[0]'hz2 = c := by
      have : s.data.toList[0]? = some c := by rw [hcr]; rfl
      rw [List.getElem?_eq_getElem (by omega)] at this
      exact Option.some.inj this
    have g0 : s.toList.isEmpty = false := by rw [htl, hcr]; rfl
    have g1 : (!s.toList.isEmpty) = true := by rw [g0]; rfl
    have g2 : ¬ s.toList = [] := by rw [htl, hcr]; simp
    have hN : nameB s = (decide (s.size ≤ 40) && (letB c || c == 95) && (c :: r).all nameChar) := by unfold nameB; rw [hcr]
    by_cases h40 : 40 < s.size
    · have g40 : (40 : Int) < (s.size : Int) := by omega
      rw [hN, show decide (s.size ≤ 40) = false from decide_eq_false (by omega)]
      clear hN htl hlen hcr hc0 h0
      go_enter Tryz.func18, Tryz.ntmps18
      go_wp2
      go_ret
      exact ⟨by simp, Below.refl _ _⟩
    · have g40 : ¬ (40 : Int) < (s.size : Int) := by omega
      rw [hN, show decide (s.size ≤ 40) = true from decide_eq_true (by omega), Bool.true_and]
      have HL := Lib.hid (fun w => letter_calls (c.toNat : Int) w)
      rw [letZ_eq] at HL
      have hconv : ∀ W : World, (convert 9 74 (.string s)).run Tryz.prog W = .ok (.slice (some ⟨W.heap.size, 0, none⟩) s.size (grownCap W s.size 0 5)) (Lib.bytesWorld W 5 s) := fun W => Lib.run_convert_string_bytes W 9 74 5 s Tryz.underlying9 Tryz.underlying74 Tryz.underlying5
      have hany : (c :: r).all nameChar = !(s.data.toList.any (fun c => !nameChar c)) := by
        rw [← hcr, List.all_eq_not_any_not]
      have HC := Lib.hid (ContainsFunc_byte kByte (fun _ => True) rfl (fun c => !nameChar c) 39 #[] (enters_of Tryz.func39 (by kernel_rfl) rfl) (some ⟨w.heap.size, 0, none⟩) (grownCap w s.size 0 5) s.data.toList (Lib.bytesWorld w 5 s)
        (fun W x cs _ _ hK => by
          obtain rfl : cs = [.int .u8 (x.toNat : Int)] := hK
          have := name1_calls (x.toNat : Int) W
          rw [nameZ_eq] at this
          exact this.mono (fun e w' ⟨he, hw⟩ => ⟨he, by rw [← hw]; exact Below.refl _ _⟩))
        ⟨hs, fun _ => ⟨w.heap.size, 0, rfl, trivial, by rw [Lib.bytesWorld_size]; omega, fun j x hj => ⟨_, rfl, fun i u hu => by
          have hi : i < 1 := (List.getElem?_eq_some_iff.1 hu).1
          obtain rfl : i = 0 := by omega
          have hj' := (List.getElem?_eq_some_iff.1 hj).1
          have e1 : kByte.sz = 1 := rfl
          rw [e1, Nat.mul_one, Nat.add_zero, Nat.zero_add, Lib.bytesWorld_cell w 5 s j (by omega)]
          cases hu
          rw [List.getD_eq_getElem?_getD, hj]
          rfl⟩⟩⟩ (by
            have := grownCap_ge w s.size 0 5
            omega))
      rw [hlen] at HC
      have hbw : Below w.heap.size w (Lib.bytesWorld w 5 s) := ⟨rfl, rfl, rfl, by rw [Lib.bytesWorld_size]; omega, fun k hk => Lib.bytesWorld_at_old w _ s k hk⟩
      have HBW := Lib.hid hbw
      rw [hany]
      generalize s.data.toList.any (fun c => !nameChar c) = R at HC ⊢
      clear hN htl hlen hcr hany hbw h0
      have hcz : ((c.toNat : Int) != 95) = !(c == 95) := by
        have := UInt8.toNat_inj (a := c) (b := 95)
        rw [Bool.eq_iff_iff, bne_iff_ne, Bool.not_eq_true', beq_eq_false_iff_ne]
        constructor
        · intro h e; exact h (by rw [e]; rfl)
        · intro h e
          refine h (UInt8.toNat_inj.1 ?_)
          show c.toNat = 95
          omega
      cases h1 : letB c with
      | true =>
        rw [h1] at HL
        clear h1 hcz
        go_enter Tryz.func18, Tryz.ntmps18
        go_wp2_with (first | (go_at_call 37; refine (HL.out _).mono ?_; rintro e w' ⟨rfl, rfl⟩) | (go_at_call 38; refine HC.out.mono ?_; rintro e w' ⟨rfl, hb⟩))
        go_ret
        exact ⟨by simp, HBW.out.trans (hb.mono (by have := HBW.out.size; omega))⟩
      | false =>
        rw [h1] at HL
        clear h1
        cases h2 : c == 95 with
        | true =>
          rw [h2] at hcz
          clear h2
          go_enter Tryz.func18, Tryz.ntmps18
          go_wp2_with (first | (go_at_call 37; refine (HL.out _).mono ?_; rintro e w' ⟨rfl, rfl⟩) | (go_at_call 38; refine HC.out.mono ?_; rintro e w' ⟨rfl, hb⟩))
          go_ret
          exact ⟨by simp, HBW.out.trans (hb.mono (by have := HBW.out.size; omega))⟩
        | false =>
          rw [h2] at hcz
          clear h2
          go_enter Tryz.func18, Tryz.ntmps18
          go_wp2_with (first | (go_at_call 37; refine (HL.out _).mono ?_; rintro e w' ⟨rfl, rfl⟩) | (go_at_call 38; refine HC.out.mono ?_; rintro e w' ⟨rfl, hb⟩))
          go_ret
          exact ⟨by simp, Below.refl _ _⟩
end Go.Proofs.YthfomoigaoffgaaGreat.So
