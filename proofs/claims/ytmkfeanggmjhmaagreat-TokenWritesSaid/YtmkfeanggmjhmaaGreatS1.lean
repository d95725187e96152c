/- Walks of the scanner's small functions. -/
import Derived.Test.YtmkfeanggmjhmaaGreatShelf
import Derived.Test.YtmkfeanggmjhmaaGreatK
import Derived.Test.YtmkfeanggmjhmaaGreatM
import Derived.Lib.IndexBytes
import Derived.BigQuiet
import Derived.Deep.QuietTactic
namespace Go.Proofs.YtmkfeanggmjhmaaGreat.S
open Go Go.RowKit Go.Proofs.YtmkfeanggmjhmaaGreatW.PrintWords Go.Proofs.YtmkfeanggmjhmaaGreatW.PrintLast Go.Proofs.YtmkfeanggmjhmaaGreatW.PrintMore
open Go.Proofs.YtmkfeanggmjhmaaGreat.M Go.Proofs.YtmkfeanggmjhmaaGreat.K
set_option linter.unusedSimpArgs false
set_option linter.unusedVariables false

theorem letter_calls (c : Int) (h0 : 0 ≤ c) (h1 : c ≤ 255) (w : World) :
    Calls Tryz.prog 60 #[.int .u8 c] w fun e w' => e = .returned (.bool (letterB c)) ∧ Drawn0 w w' := by
  have key : ∀ n : Fin 256, (decide (97 ≤ (Go.bits .or .u8 (n.val : Int) 32)) && decide ((Go.bits .or .u8 (n.val : Int) 32) ≤ 122) || ((n.val : Int) == 95)) = letterB (n.val : Int) := by decide +kernel
  obtain ⟨n, rfl⟩ := Int.eq_ofNat_of_zero_le h0
  have hk := key ⟨n, by omega⟩
  simp only at hk
  rw [← hk]
  clear hk key
  by_cases c2 : (97 : Int) ≤ (Go.bits .or .u8 (n : Int) 32)
  · by_cases c3 : (Go.bits .or .u8 (n : Int) 32) ≤ 122
    · go_enter Tryz.func60, Tryz.ntmps60
      go_wp2
      go_ret
      exact ⟨by simp [*], by repeat (first | exact Drawn0.refl _ | apply Drawn0.step)⟩
    · have c3b := decide_eq_false c3
      clear c3
      go_enter Tryz.func60, Tryz.ntmps60
      go_wp2
      go_ret
      exact ⟨by simp [*], by repeat (first | exact Drawn0.refl _ | apply Drawn0.step)⟩
  · have c3b := decide_eq_false c2
    clear c2
    go_enter Tryz.func60, Tryz.ntmps60
    go_wp2
    go_ret
    exact ⟨by simp [*], by repeat (first | exact Drawn0.refl _ | apply Drawn0.step)⟩

theorem digit_calls (c : Int) (w : World) :
    Calls Tryz.prog 63 #[.int .u8 c] w fun e w' => e = .returned (.bool (digitB c)) ∧ Drawn0 w w' := by
  unfold digitB
  by_cases h1 : 48 ≤ c
  · by_cases h2 : c ≤ 57
    · have e : decide (48 ≤ c ∧ c ≤ 57) = true := by simp [h1, h2]
      rw [e]
      go_enter Tryz.func63, Tryz.ntmps63
      go_wp2
      go_ret
      exact ⟨rfl, by repeat (first | exact Drawn0.refl _ | apply Drawn0.step)⟩
    · have e : decide (48 ≤ c ∧ c ≤ 57) = false := by simp [h2]
      rw [e]
      go_enter Tryz.func63, Tryz.ntmps63
      go_wp2
      go_ret
      exact ⟨by simp, by repeat (first | exact Drawn0.refl _ | apply Drawn0.step)⟩
  · have e : decide (48 ≤ c ∧ c ≤ 57) = false := by simp [h1]
    rw [e]
    go_enter Tryz.func63, Tryz.ntmps63
    go_wp2
    go_ret
    exact ⟨by simp, by repeat (first | exact Drawn0.refl _ | apply Drawn0.step)⟩

theorem identC_calls (c : Int) (h0 : 0 ≤ c) (h1 : c ≤ 255) (w : World) :
    Calls Tryz.prog 62 #[.int .u8 c] w fun e w' => e = .returned (.bool (identB c)) ∧ Drawn0 w w' := by
  unfold identB
  generalize hl : letterB c = bl
  generalize hd : digitB c = bd
  have Hl := Lib.hid (letter_calls c h0 h1); rw [hl] at Hl; clear hl
  have Hd := Lib.hid (digit_calls c); rw [hd] at Hd; clear hd
  cases bl <;> cases bd
  all_goals
    go_enter Tryz.func62, Tryz.ntmps62
    go_wp2_with (first | (go_at_call 60; refine (Hl.out _).mono ?_; rintro e w' ⟨rfl, ⟨nd, rfl⟩⟩) | (go_at_call 63; refine (Hd.out _).mono ?_; rintro e w' ⟨rfl, ⟨nd, rfl⟩⟩))
    go_ret
    exact ⟨by first | rfl | (simp; done) | (simp [*]; done), by repeat (first | exact Drawn0.refl _ | apply Drawn0.step)⟩

theorem indexByte_ge (l : List UInt8) (c : UInt8) : decide ((0 : Int) ≤ Lib.indexByte l c) = l.contains c := by
  induction l with
  | nil => simp [Lib.indexByte]
  | cons b l ih =>
    have hr : ∀ l : List UInt8, -1 ≤ Lib.indexByte l c := by
      intro l
      induction l with
      | nil => simp [Lib.indexByte]
      | cons b l ih => unfold Lib.indexByte; split; · omega
                       · split
                         · omega
                         · rename_i h; simp at h; omega
    unfold Lib.indexByte
    by_cases hb : b = c
    · subst hb; simp
    · have hb' : (b == c) = false := by simpa using hb
      have hcb : (c == b) = false := by simpa using fun e => hb e.symm
      rw [hb', List.contains_cons, hcb, Bool.false_or, ← ih]
      have := hr l
      by_cases h : Lib.indexByte l c = -1
      · simp [h]
      · simp [h]
        constructor
        · intro; omega
        · intro; omega

theorem runC_calls (c : Int) (w : World) :
    Calls Tryz.prog 64 #[.int .u8 c] w fun e w' => e = .returned (.bool (signB c)) ∧ Drawn0 w w' := by
  have hr := indexByte_ge signs c.toNat.toUInt8
  unfold signB
  rw [← hr]
  clear hr
  go_enter Tryz.func64, Tryz.ntmps64
  go_wp2_with (go_at_call 65; refine (Tryz.strings_IndexByte _ _ _).mono ?_; rintro e w' ⟨rfl, rfl⟩)
  go_ret
  exact ⟨rfl, Drawn0.refl _⟩

theorem isPoint_calls (c : Int) (w : World) :
    Calls Tryz.prog 45 #[.int .u8 c] w fun e w' => e = .returned (.bool (pointB c)) ∧ Drawn0 w w' := by
  have hr := indexByte_ge points c.toNat.toUInt8
  unfold pointB
  rw [← hr]
  clear hr
  go_enter Tryz.func45, Tryz.ntmps45
  go_wp2_with (go_at_call 65; refine (Tryz.strings_IndexByte _ _ _).mono ?_; rintro e w' ⟨rfl, rfl⟩)
  go_ret
  exact ⟨rfl, Drawn0.refl _⟩

theorem blanksC_calls (c : Int) (w : World) :
    Calls Tryz.prog 66 #[.int .u8 c] w fun e w' => e = .returned (.bool (blankB c)) ∧ Drawn0 w w' := by
  have e : blankB c = (decide (c = 32) || decide (c = 9) || decide (c = 10) || decide (c = 13)) := by
    unfold blankB; rw [Bool.eq_iff_iff]; simp [or_assoc]
  rw [e]
  by_cases h1 : c = 32
  · subst h1
    go_enter Tryz.func66, Tryz.ntmps66
    go_wp2
    go_ret
    exact ⟨rfl, Drawn0.refl _⟩
  · have g1 : (c == 32) = false := by simpa using h1
    by_cases h2 : c = 9
    · subst h2
      clear h1
      go_enter Tryz.func66, Tryz.ntmps66
      go_wp2
      go_ret
      exact ⟨rfl, Drawn0.refl _⟩
    · have g2 : (c == 9) = false := by simpa using h2
      by_cases h3 : c = 10
      · subst h3
        clear h1 h2
        go_enter Tryz.func66, Tryz.ntmps66
        go_wp2
        go_ret
        exact ⟨rfl, Drawn0.refl _⟩
      · have g3 : (c == 10) = false := by simpa using h3
        clear h1 h2 h3
        go_enter Tryz.func66, Tryz.ntmps66
        go_wp2
        go_ret
        refine ⟨?_, Drawn0.refl _⟩
        simp only [beq_eq_false_iff_ne] at g1 g2 g3
        simp [g1, g2, g3]
        rfl

/-- a function value that tells of each byte whether it is of a kind -/
def PredB (g : FuncId) (p : Int → Bool) : Prop := ∀ (c : Int) (w : World), 0 ≤ c → c ≤ 255 → Calls Tryz.prog g #[.int .u8 c] w fun e w' => e = .returned (.bool (p c)) ∧ Drawn0 w w'

set_option maxHeartbeats 400000 in
theorem while_calls (s : ByteArray) (hs : s.size ≤ 9223372036854775807) (i : Int) (h0 : 0 ≤ i) (p : Int → Bool) (g : FuncId) (eg : Enters Tryz.prog g) (hp : PredB g p) (w : World) :
    Calls Tryz.prog 61 #[.string s, .int .i64 i, .func (.func g) #[] #[]] w fun e w' => e = .returned (.int .i64 (whileE p s i.toNat)) ∧ Drawn0 w w' := by
  obtain ⟨i, rfl⟩ := Int.eq_ofNat_of_zero_le h0
  rw [Int.toNat_natCast]
  have Hp := Lib.hid hp
  clear hp
  unfold Enters at eg
  go_enter Tryz.func61, Tryz.ntmps61
  go_wp2
  go_loopw [1] (fun v wr => ∃ k : Nat, v = .int .i64 k ∧ Hid (whileE p s i = whileE p s k) ∧ Drawn0 w wr) (fun v _ => s.size - (intOf v).toNat)
  case atStart => exact ⟨i, rfl, rfl, Drawn0.refl _⟩
  case round =>
    obtain ⟨k, rfl, hw, hd⟩ := hrel
    have Hd := Lib.hid hd; clear hd
    by_cases hlt : k < s.size
    · have hltz : (k : Int) < (s.size : Int) := by omega
      have hb := bt_range s k
      have hbt : bt s k = ((s[k]'hlt).toNat : Int) := by unfold bt; simp [hlt]
      generalize hq : p (bt s k) = q
      have HC := Lib.hid (fun w => Hp.out (bt s k) w hb.1 hb.2)
      clear hb
      have Hbt := Lib.hid hbt
      clear hbt
      rw [hq, Hbt.out] at HC
      have Hq := Lib.hid hq; clear hq
      cases q with
      | true =>
        go_wp2_with (go_at_fn g; refine (HC.out _).mono ?_; rintro e w' ⟨rfl, ⟨nd, rfl⟩⟩)
        go_roundw
        case rel => exact ⟨k + 1, by go_num, Lib.hid (hw.out.trans (whileE_hit p s k hlt Hq.out)), Hd.out.step _⟩
        case measure => simp [intOf]; omega
      | false =>
        go_wp2_with (go_at_fn g; refine (HC.out _).mono ?_; rintro e w' ⟨rfl, ⟨nd, rfl⟩⟩)
        go_ret
        exact ⟨by rw [hw.out, whileE_miss p s k hlt Hq.out]; rfl, Hd.out.step _⟩
    · have hltz : ¬ (k : Int) < (s.size : Int) := by omega
      go_wp2
      go_ret
      exact ⟨by rw [hw.out, whileE_end p s k (by omega)]; rfl, Hd.out⟩

theorem enters_ident1 : Enters Tryz.prog 62 := enters_of Tryz.func62 (by kernel_rfl) rfl
theorem enters_run1 : Enters Tryz.prog 64 := enters_of Tryz.func64 (by kernel_rfl) rfl
theorem enters_digit : Enters Tryz.prog 63 := enters_of Tryz.func63 (by kernel_rfl) rfl
theorem enters_blanks1 : Enters Tryz.prog 66 := enters_of Tryz.func66 (by kernel_rfl) rfl

theorem ident_calls (s : ByteArray) (hs : s.size ≤ 9223372036854775807) (i : Int) (h0 : 0 ≤ i) (w : World) :
    Calls Tryz.prog 42 #[.string s, .int .i64 i] w fun e w' => e = .returned (.int .i64 (identE s i.toNat)) ∧ Drawn0 w w' := by
  obtain ⟨i, rfl⟩ := Int.eq_ofNat_of_zero_le h0
  rw [Int.toNat_natCast]
  unfold identE
  by_cases hlt : i < s.size
  · rw [if_pos hlt]
    have hltz : (i : Int) < (s.size : Int) := by omega
    have hb := bt_range s i
    have hbt : bt s i = ((s[i]'hlt).toNat : Int) := by unfold bt; simp [hlt]
    have HC := Lib.hid (letter_calls (bt s i) hb.1 hb.2)
    clear hb
    have Hbt := Lib.hid hbt
    clear hbt
    generalize hq : letterB (bt s i) = q at HC ⊢
    rw [Hbt.out] at HC
    have Hq := Lib.hid hq; clear hq
    cases q with
    | true =>
      rw [if_pos rfl]
      have HW := Lib.hid (while_calls s hs i (by omega) identB _ enters_ident1 (fun c w a b => identC_calls c a b w))
      rw [Int.toNat_natCast] at HW
      go_enter Tryz.func42, Tryz.ntmps42
      go_wp2_with (first | (go_at_call 60; refine (HC.out _).mono ?_; rintro e w' ⟨rfl, ⟨nd, rfl⟩⟩) | (go_at_call 61; refine (HW.out _).mono ?_; rintro e w' ⟨rfl, ⟨nd, rfl⟩⟩))
      go_ret
      exact ⟨rfl, by repeat (first | exact Drawn0.refl _ | apply Drawn0.step)⟩
    | false =>
      rw [if_neg (by decide)]
      go_enter Tryz.func42, Tryz.ntmps42
      go_wp2_with (go_at_call 60; refine (HC.out _).mono ?_; rintro e w' ⟨rfl, ⟨nd, rfl⟩⟩)
      go_ret
      exact ⟨rfl, by repeat (first | exact Drawn0.refl _ | apply Drawn0.step)⟩
  · rw [if_neg hlt]
    have hltz : (s.size : Int) ≤ (i : Int) := by omega
    go_enter Tryz.func42, Tryz.ntmps42
    go_wp2
    go_ret
    exact ⟨rfl, Drawn0.refl _⟩

theorem run_calls (s : ByteArray) (hs : s.size ≤ 9223372036854775807) (i : Int) (h0 : 0 ≤ i) (w : World) :
    Calls Tryz.prog 43 #[.string s, .int .i64 i] w fun e w' => e = .returned (.int .i64 (runE s i.toNat)) ∧ Drawn0 w w' := by
  have HW := Lib.hid (while_calls s hs i h0 signB _ enters_run1 (fun c w _ _ => runC_calls c w))
  go_enter Tryz.func43, Tryz.ntmps43
  go_wp2_with (go_at_call 61; refine (HW.out _).mono ?_; rintro e w' ⟨rfl, ⟨nd, rfl⟩⟩)
  go_ret
  exact ⟨rfl, by repeat (first | exact Drawn0.refl _ | apply Drawn0.step)⟩
end Go.Proofs.YtmkfeanggmjhmaaGreat.S
namespace Go.Proofs.YtmkfeanggmjhmaaGreat.S
open Go Go.RowKit Go.Proofs.YtmkfeanggmjhmaaGreatW.PrintWords Go.Proofs.YtmkfeanggmjhmaaGreatW.PrintLast Go.Proofs.YtmkfeanggmjhmaaGreatW.PrintMore
open Go.Proofs.YtmkfeanggmjhmaaGreat.M Go.Proofs.YtmkfeanggmjhmaaGreat.K
set_option linter.unusedSimpArgs false
set_option linter.unusedVariables false

theorem prefix_calls (s : ByteArray) (i : Nat) (p : ByteArray) (w : World) :
    Calls Tryz.prog 10 #[.string (s.extract i s.size), .string p] w fun e w' => e = .returned (.bool (preAt s i p.data.toList)) ∧ w' = w := by
  have h := Tryz.strings_HasPrefix (s.extract i s.size) p w
  rw [Lib.extract_to_end] at h
  exact h

theorem named_calls (s : ByteArray) (hs : s.size ≤ 4611686018427387904) (i : Int) (h0 : 0 ≤ i) (hi : i ≤ s.size) (w : World) :
    Calls Tryz.prog 44 #[.string s, .int .i64 i] w fun e w' => e = .returned (.int .i64 (namedE s i.toNat)) ∧ Drawn0 w w' := by
  obtain ⟨i, rfl⟩ := Int.eq_ofNat_of_zero_le h0
  rw [Int.toNat_natCast]
  have hin : i ≤ s.size := by omega
  have HP := Lib.hid (fun w => prefix_calls s i ⟨#[92, 60]⟩ w)
  have HI := Lib.hid (fun w => ident_calls s (by omega) ((i : Int) + 2) (by omega) w)
  rw [show ((i : Int) + 2).toNat = i + 2 by omega] at HI
  have hge := identE_ge s (i + 2)
  have hle := identE_le s (i + 2)
  unfold namedE
  have HPP : Hid (preAt s i [92, 60] = true → i + 2 ≤ s.size) := fun h => preAt_le h hin
  change Hid (∀ w, Calls _ _ _ _ fun e w' => e = .returned (.bool (preAt s i [92, 60])) ∧ _) at HP
  generalize preAt s i [92, 60] = p at HP HPP ⊢
  cases p with
  | false =>
    rw [if_neg (by decide)]
    go_enter Tryz.func44, Tryz.ntmps44
    go_wp2_with (go_at_call 10; refine (HP.out _).mono ?_; rintro e w' ⟨rfl, rfl⟩)
    go_ret
    exact ⟨rfl, Drawn0.refl _⟩
  | true =>
    rw [if_pos rfl]
    have h2 := HPP.out rfl
    have hle := hle h2
    generalize identE s (i + 2) = m at HI hge hle ⊢
    by_cases e1 : m = i + 2
    · subst e1
      rw [if_pos (.inl rfl)]
      go_enter Tryz.func44, Tryz.ntmps44
      go_wp2_with (first | (go_at_call 10; refine (HP.out _).mono ?_; rintro e w' ⟨rfl, rfl⟩) | (go_at_call 42; refine (HI.out _).mono ?_; rintro e w' ⟨rfl, ⟨nd, rfl⟩⟩))
      go_ret
      exact ⟨rfl, by repeat (first | exact Drawn0.refl _ | apply Drawn0.step)⟩
    · have g1 : ((m : Int) == (i : Int) + 2) = false := by simp; omega
      by_cases e2 : m = s.size
      · rw [if_pos (.inr (.inl e2))]
        have g2 : ((m : Int) == (s.size : Int)) = true := by simp; omega
        clear e2
        go_enter Tryz.func44, Tryz.ntmps44
        go_wp2_with (first | (go_at_call 10; refine (HP.out _).mono ?_; rintro e w' ⟨rfl, rfl⟩) | (go_at_call 42; refine (HI.out _).mono ?_; rintro e w' ⟨rfl, ⟨nd, rfl⟩⟩))
        go_ret
        exact ⟨rfl, by repeat (first | exact Drawn0.refl _ | apply Drawn0.step)⟩
      · have g2 : ((m : Int) == (s.size : Int)) = false := by simp; omega
        have hlt : m < s.size := by omega
        have hbt : bt s m = ((s[m]'hlt).toNat : Int) := by unfold bt; simp [hlt]
        have hltz : (m : Int) < (s.size : Int) := by omega
        rw [hbt]
        by_cases e3 : ((s[m]'hlt).toNat : Int) = 62
        · rw [if_neg (by omega)]
          have g3 : (((s[m]'hlt).toNat : Int) != 62) = false := by simp [e3]
          clear hbt e3 e1 e2
          go_enter Tryz.func44, Tryz.ntmps44
          go_wp2_with (first | (go_at_call 10; refine (HP.out _).mono ?_; rintro e w' ⟨rfl, rfl⟩) | (go_at_call 42; refine (HI.out _).mono ?_; rintro e w' ⟨rfl, ⟨nd, rfl⟩⟩))
          go_ret
          exact ⟨rfl, by repeat (first | exact Drawn0.refl _ | apply Drawn0.step)⟩
        · rw [if_pos (.inr (.inr e3))]
          have g3 : (((s[m]'hlt).toNat : Int) != 62) = true := by simpa using e3
          clear hbt e3 e1 e2
          go_enter Tryz.func44, Tryz.ntmps44
          go_wp2_with (first | (go_at_call 10; refine (HP.out _).mono ?_; rintro e w' ⟨rfl, rfl⟩) | (go_at_call 42; refine (HI.out _).mono ?_; rintro e w' ⟨rfl, ⟨nd, rfl⟩⟩))
          go_ret
          exact ⟨rfl, by repeat (first | exact Drawn0.refl _ | apply Drawn0.step)⟩

/-- the scanner: its text, and the map of its keywords -/
structure Scn (w : World) (bx : Nat) (s : ByteArray) (kw : Option Nat) : Prop where
  kw : w.cell? ⟨bx, 0, none⟩ = some (.map kw)
  s : w.cell? ⟨bx, 1, none⟩ = some (.string s)
theorem Scn.chg {T : Nat → Prop} {w w' : World} {bx : Nat} {s : ByteArray} {kw : Option Nat} (h : Scn w bx s kw) (hc : Chg T w w') (hn : ¬ T bx) : Scn w' bx s kw := ⟨hc.cell h.kw hn, hc.cell h.s hn⟩
theorem Scn.drewN {w : World} {bx : Nat} {s : ByteArray} {kw : Option Nat} (h : Scn w bx s kw) (n : Nat) : Scn (w.drewN n) bx s kw := ⟨h.kw, h.s⟩
theorem Scn.below {n : Nat} {w w' : World} {bx : Nat} {s : ByteArray} {kw : Option Nat} (h : Scn w bx s kw) (hb : Below n w w') (hn : bx < n) : Scn w' bx s kw := ⟨(hb.cell (p := ⟨bx, 0, none⟩) hn).trans h.kw, (hb.cell (p := ⟨bx, 1, none⟩) hn).trans h.s⟩

/-- what the closure of 'nested' has captured -/
structure Nst (w : World) (v0 v1 v2 v3 v4 bx : Nat) (s : ByteArray) (i : Nat) (b e : ByteArray) (deep : Int) : Prop where
  x : w.cell? ⟨v0, 0, none⟩ = some (.pointer (some ⟨bx, 0, none⟩))
  s : w.cell? ⟨bx, 1, none⟩ = some (.string s)
  at_ : w.cell? ⟨v1, 0, none⟩ = some (.int .i64 i)
  b : w.cell? ⟨v2, 0, none⟩ = some (.string b)
  deep : w.cell? ⟨v3, 0, none⟩ = some (.int .i64 deep)
  e : w.cell? ⟨v4, 0, none⟩ = some (.string e)
  fz : w.frozen? ⟨v3, 0, none⟩ = false
  ne2 : v2 ≠ v3
  ne4 : v4 ≠ v3

set_option maxHeartbeats 1000000 in
theorem step_calls (v0 v1 v2 v3 v4 bx : Nat) (s : ByteArray) (i : Nat) (b e : ByteArray) (deep : Int) (w : World) (h : Nst w v0 v1 v2 v3 v4 bx s i b e deep)
    (hi : i ≤ s.size) (hs : s.size ≤ 4611686018427387904) (hd0 : -4611686018427387904 ≤ deep) (hd1 : deep ≤ 4611686018427387904) :
    Calls Tryz.prog 78 #[.pointer (some ⟨v0, 0, none⟩), .pointer (some ⟨v1, 0, none⟩), .pointer (some ⟨v2, 0, none⟩), .pointer (some ⟨v3, 0, none⟩), .pointer (some ⟨v4, 0, none⟩)] w fun r w' =>
      r = .returned (.int .i64 (stepW s b.data.toList e.data.toList i)) ∧ ∃ nd, w' = (w.drewN nd).setCell ⟨v3, 0, none⟩ (.int .i64 (deep + stepD s b.data.toList e.data.toList i)) := by
  obtain ⟨h1, h2, h3, h4, h5, h6, h7, h8, h9⟩ := h
  unfold stepW stepD
  have HB := Lib.hid (fun w => prefix_calls s i b w)
  have HE := Lib.hid (fun w => prefix_calls s i e w)
  generalize preAt s i b.data.toList = pb at HB ⊢
  generalize preAt s i e.data.toList = pe at HE ⊢
  have hiz : (i : Int) ≤ (s.size : Int) := by omega
  cases pb with
  | true =>
    simp only [if_true]
    go_enter Tryz.func78, Tryz.ntmps78
    go_wp2
    go_quiet (fail)
    go_wp2_with (go_at_call 10; refine (HB.out _).mono ?_; rintro e w' ⟨rfl, rfl⟩)
    go_ret
    exact ⟨rfl, _, rfl⟩
  | false =>
    simp only [Bool.false_eq_true, if_false]
    cases pe with
    | true =>
      simp only [if_true]
      go_enter Tryz.func78, Tryz.ntmps78
      go_wp2
      go_quiet (fail)
      go_wp2_with fail
      refine (HB.out _).mono ?_
      rintro e w' ⟨rfl, rfl⟩
      go_wp2_with fail
      refine (HE.out _).mono ?_
      rintro e w' ⟨rfl, rfl⟩
      go_wp2
      go_ret
      exact ⟨rfl, _, rfl⟩
    | false =>
      simp only [Bool.false_eq_true, if_false]
      go_enter Tryz.func78, Tryz.ntmps78
      go_wp2
      go_quiet (fail)
      go_wp2_with fail
      refine (HB.out _).mono ?_
      rintro e w' ⟨rfl, rfl⟩
      go_wp2_with fail
      refine (HE.out _).mono ?_
      rintro e w' ⟨rfl, rfl⟩
      go_wp2
      go_ret
      exact ⟨rfl, _, by rw [Int.add_zero]; exact (setCell_self (w := w.drewN _) h5).symm⟩

theorem Nst.setAt {w : World} {v0 v1 v2 v3 v4 bx : Nat} {s : ByteArray} {i : Nat} {b e : ByteArray} {deep : Int} (h : Nst w v0 v1 v2 v3 v4 bx s i b e deep) (n0 : v0 ≠ v1) (n1 : bx ≠ v1) (n2 : v2 ≠ v1) (n3 : v3 ≠ v1) (n4 : v4 ≠ v1) (j : Nat) :
    Nst (w.setCell ⟨v1, 0, none⟩ (.int .i64 j)) v0 v1 v2 v3 v4 bx s j b e deep := by
  have hc : Chg (fun k => k = v1) w (w.setCell ⟨v1, 0, none⟩ (.int .i64 j)) := Chg.setCell (T := fun k => k = v1) (p := ⟨v1, 0, none⟩) rfl _
  refine ⟨hc.cell h.x n0, hc.cell h.s n1, ?_, hc.cell h.b n2, hc.cell h.deep n3, hc.cell h.e n4, ?_, h.ne2, h.ne4⟩
  · exact World.cell?_setCell_same' _ _ _ (by rw [h.at_]; rfl)
  · rw [World.frozen?_setCell]; exact h.fz
theorem Nst.setDeep {w : World} {v0 v1 v2 v3 v4 bx : Nat} {s : ByteArray} {i : Nat} {b e : ByteArray} {deep : Int} (h : Nst w v0 v1 v2 v3 v4 bx s i b e deep) (n0 : v0 ≠ v3) (n1 : bx ≠ v3) (n2 : v1 ≠ v3) (d : Int) :
    Nst (w.setCell ⟨v3, 0, none⟩ (.int .i64 d)) v0 v1 v2 v3 v4 bx s i b e d := by
  have hc : Chg (fun k => k = v3) w (w.setCell ⟨v3, 0, none⟩ (.int .i64 d)) := Chg.setCell (T := fun k => k = v3) (p := ⟨v3, 0, none⟩) rfl _
  refine ⟨hc.cell h.x n0, hc.cell h.s n1, hc.cell h.at_ n2, hc.cell h.b h.ne2, ?_, hc.cell h.e h.ne4, ?_, h.ne2, h.ne4⟩
  · exact World.cell?_setCell_same' _ _ _ (by rw [h.deep]; rfl)
  · rw [World.frozen?_setCell]; exact h.fz
theorem Nst.drewN {w : World} {v0 v1 v2 v3 v4 bx : Nat} {s : ByteArray} {i : Nat} {b e : ByteArray} {deep : Int} (h : Nst w v0 v1 v2 v3 v4 bx s i b e deep) (n : Nat) : Nst (w.drewN n) v0 v1 v2 v3 v4 bx s i b e deep :=
  ⟨h.x, h.s, h.at_, h.b, h.deep, h.e, h.fz, h.ne2, h.ne4⟩
theorem Nst.drew {w : World} {v0 v1 v2 v3 v4 bx : Nat} {s : ByteArray} {i : Nat} {b e : ByteArray} {deep : Int} (h : Nst w v0 v1 v2 v3 v4 bx s i b e deep) : Nst w.drew v0 v1 v2 v3 v4 bx s i b e deep :=
  ⟨h.x, h.s, h.at_, h.b, h.deep, h.e, h.fz, h.ne2, h.ne4⟩

def nestR : Option Nat → Value
  | some r => .int .i64 r
  | none => .int .i64 (-1)

theorem enters_step : Enters Tryz.prog 78 := enters_of Tryz.func78 (by kernel_rfl) rfl

set_option maxHeartbeats 2000000 in
theorem nested_calls (bx : Nat) (s : ByteArray) (i : Int) (h0 : 0 ≤ i) (hi : i ≤ s.size) (b e : ByteArray) (hb : 0 < b.data.toList.length) (he : 0 < e.data.toList.length) (w : World)
    (hx : w.cell? ⟨bx, 1, none⟩ = some (.string s)) (hs : s.size ≤ 1000000000000) :
    Calls Tryz.prog 67 #[.pointer (some ⟨bx, 0, none⟩), .int .i64 i, .string b, .string e] w fun r w' =>
      r = .returned (nestR (nestE s b.data.toList e.data.toList i.toNat 0)) ∧ Below w.heap.size w w' := by
  obtain ⟨i, rfl⟩ := Int.eq_ofNat_of_zero_le h0
  rw [Int.toNat_natCast]
  have hbx : bx < w.heap.size := lt_of_cell hx
  have eg := enters_step
  unfold Enters at eg
  go_enter Tryz.func67, Tryz.ntmps67
  go_wp2
  go_loopg [] (s.size - i + 1) (fun gg wr => ∃ (k : Nat) (deep : Int), Nst wr w.heap.size (w.heap.size + 1) (w.heap.size + 1 + 1) (w.heap.size + 1 + 1 + 1 + 1) (w.heap.size + 1 + 1 + 1) bx s k b e deep ∧ wr.frozen? ⟨w.heap.size + 1, 0, none⟩ = false ∧ k ≤ s.size ∧ i ≤ k ∧ -(k : Int) ≤ deep ∧ deep ≤ k ∧ s.size - k + 1 ≤ gg ∧
    Hid (nestE s b.data.toList e.data.toList i 0 = nestE s b.data.toList e.data.toList k deep) ∧ Below w.heap.size w wr)
  case atStart =>
    refine ⟨i, 0, ⟨?_, ?_, ?_, ?_, ?_, ?_, ?_, by omega, by omega⟩, ?_, by omega, Nat.le_refl _, by omega, by omega, Nat.le_refl _, rfl, ?_⟩
    all_goals first
      | ((repeat (rw [cell_old _ _ _ _ (by (try simp only [World.size_alloc]); omega)])); first | assumption | exact cell_at _ _ _ _ (by first | rfl | simp only [World.size_alloc]))
      | ((repeat (rw [frozen_old _ _ _ _ (by (try simp only [World.size_alloc]); omega)])); exact frozen_at _ _ _ _ _ (by first | rfl | simp only [World.size_alloc]))
      | exact ((((((Below.refl _ w).alloc (Nat.le_refl _) _).alloc (by simp only [World.size_alloc]; omega) _).alloc (by simp only [World.size_alloc]; omega) _).alloc (by simp only [World.size_alloc]; omega) _).alloc (by simp only [World.size_alloc]; omega) _)
  case round =>
    obtain ⟨k, deep, hn, hf, hk, hik, hd0, hd1, hg, hw, hbl⟩ := hrel
    have Hn := Lib.hid hn
    obtain ⟨h1, h2, h3, h4, h5, h6, h7, h8, h9⟩ := hn
    clear h8 h9
    by_cases hlt : k < s.size
    · have hltz : (k : Int) < (s.size : Int) := by omega
      have hsw := stepW_le s b.data.toList e.data.toList k hlt
      have hsp := stepW_pos s b.data.toList e.data.toList k hb he
      have hsd := stepD_range s b.data.toList e.data.toList k
      have HS : Hid (∀ W, Nst W w.heap.size (w.heap.size + 1) (w.heap.size + 1 + 1) (w.heap.size + 1 + 1 + 1 + 1) (w.heap.size + 1 + 1 + 1) bx s k b e deep → _) := fun W h => step_calls _ _ _ _ _ bx s k b e deep W h hk (by omega) (by omega) (by omega)
      have Hstop := Lib.hid (nestE_stop s b.data.toList e.data.toList k deep hlt)
      have Hstep := Lib.hid (nestE_step s b.data.toList e.data.toList hb he k deep hlt)
      generalize stepW s b.data.toList e.data.toList k = sw at HS hsw hsp Hstop Hstep
      generalize stepD s b.data.toList e.data.toList k = sd at HS hsd Hstop Hstep
      have hwrap : IntKind.i64.wrap ((k : Int) + (sw : Int)) = ((k + sw : Nat) : Int) := by rw [IntWalk.i64_in _ (by omega)]; omega
      have Hwrap := Lib.hid hwrap
      clear hwrap
      go_wp2
      go_quiet (fail)
      go_wp2
      go_region_with (go_at_call 78; refine (HS.out _ ?_).mono ?_; exact (Hn.out.drewN _).drew; rintro r w' ⟨rfl, nd, rfl⟩)
      all_goals
        generalize hW : World.setCell _ _ _ = W
        rw [Hwrap.out] at hW ⊢
        have HnW : Nst W w.heap.size (w.heap.size + 1) (w.heap.size + 1 + 1) (w.heap.size + 1 + 1 + 1 + 1) (w.heap.size + 1 + 1 + 1) bx s (k + sw) b e (deep + sd) := by
          rw [← hW]; exact ((Hn.out.drewN _).setDeep (by omega) (by omega) (by omega) _).setAt (by omega) (by omega) (by omega) (by omega) (by omega) _
        have hfW : W.frozen? ⟨w.heap.size + 1, 0, none⟩ = false := by
          rw [← hW, World.frozen?_setCell, World.frozen?_setCell]; exact hf
        have hbW : Below w.heap.size w W := by
          rw [← hW]; exact (((below_drewN hbl _).setCell (p := ⟨w.heap.size + 1 + 1 + 1 + 1, 0, none⟩) (by simp; omega) _).setCell (p := ⟨w.heap.size + 1, 0, none⟩) (by simp) _)
        have HN := Lib.hid HnW
        clear hW
        obtain ⟨g1, g2, g3, g4, g5, g6, g7, _, _⟩ := HnW
        by_cases hz : deep + sd = 0
        · have gz : (deep + sd == 0) = true := by simpa using hz
          have Hz := Lib.hid hz
          clear hz
          go_wp2
          go_ret
          exact ⟨by rw [hw.out, Hstop.out Hz.out]; rfl, hbW⟩
        · have gz : (deep + sd == 0) = false := by simpa using hz
          have Hz := Lib.hid hz
          clear hz
          go_wp2
          go_roundg (s.size - (k + sw) + 1)
          case measure => omega
          case rel => exact ⟨k + sw, deep + sd, HN.out, hfW, by omega, by omega, by omega, by omega, Nat.le_refl _, Lib.hid (hw.out.trans (Hstep.out Hz.out)), hbW⟩
    · have hltz : ¬ (k : Int) < (s.size : Int) := by omega
      go_wp2
      go_quiet (fail)
      go_wp2
      go_ret
      exact ⟨by rw [hw.out, nestE_end _ _ _ _ _ (by omega)]; rfl, ⟨hbl.os, hbl.tape, hbl.output, hbl.size, hbl.block⟩⟩
end Go.Proofs.YtmkfeanggmjhmaaGreat.S
