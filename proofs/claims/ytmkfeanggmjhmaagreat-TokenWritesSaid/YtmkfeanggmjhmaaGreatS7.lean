/- Walks: keywords. -/
import Derived.Test.YtmkfeanggmjhmaaGreatS1
import Derived.Test.YtmkfeanggmjhmaaGreatM
import Derived.Test.YtmkfeanggmjhmaaGreatKw
namespace Go.Proofs.YtmkfeanggmjhmaaGreat.S
open Go Go.RowKit Go.Proofs.YtmkfeanggmjhmaaGreatW.PrintWords Go.Proofs.YtmkfeanggmjhmaaGreatW.PrintLast Go.Proofs.YtmkfeanggmjhmaaGreatW.PrintMore
open Go.Proofs.YtmkfeanggmjhmaaGreat.M Go.Proofs.YtmkfeanggmjhmaaGreat.K
set_option linter.unusedSimpArgs false
set_option linter.unusedVariables false

set_option maxHeartbeats 1000000 in
theorem isKeyword_calls (s : ByteArray) (hs : s.size ≤ 1000000000000) (w : World) :
    Calls Tryz.prog 34 #[.string s] w fun r w' => r = .returned (.bool (kwB s)) ∧ Drawn0 w w' := by
  have HI := Lib.hid (fun w => ident_calls s (by omega) 0 (by omega) w)
  have HR := Lib.hid (fun w => run_calls s (by omega) 0 (by omega) w)
  have HN := Lib.hid (fun w => named_calls s (by omega) 0 (by omega) (by omega) w)
  change Hid (∀ w, Calls _ _ _ _ fun r w' => r = .returned (.int .i64 (identE s 0)) ∧ _) at HI
  change Hid (∀ w, Calls _ _ _ _ fun r w' => r = .returned (.int .i64 (runE s 0)) ∧ _) at HR
  change Hid (∀ w, Calls _ _ _ _ fun r w' => r = .returned (.int .i64 (namedE s 0)) ∧ _) at HN
  unfold kwB
  have htl : s.toList = s.data.toList := Lib.toList_data _
  by_cases h0 : s.size = 0
  · have g0 : ((s.size : Int) == 0) = true := by simp [h0]
    have e : (decide (s.size = 0) || decide (40 < s.size) || decide (s.data.toList = opened) || decide (s.data.toList = closed)) = true := by rw [decide_eq_true h0]; rfl
    rw [e]
    clear e h0 htl
    go_enter Tryz.func34, Tryz.ntmps34
    go_wp2
    go_ret
    exact ⟨rfl, Drawn0.refl _⟩
  · have g0 : ((s.size : Int) == 0) = false := beq_eq_false_iff_ne.2 (by omega)
    by_cases h40 : 40 < s.size
    · have g40 : (40 : Int) < (s.size : Int) := by omega
      have e : (decide (s.size = 0) || decide (40 < s.size) || decide (s.data.toList = opened) || decide (s.data.toList = closed)) = true := by simp [h40]
      rw [e]
      clear e h0 htl
      go_enter Tryz.func34, Tryz.ntmps34
      go_wp2
      go_ret
      exact ⟨rfl, Drawn0.refl _⟩
    · have g40 : ¬ (40 : Int) < (s.size : Int) := by omega
      by_cases hop : s.data.toList = opened
      · have gop : (s.toList == [92, 60, 111, 112, 101, 110, 62]) = true := by rw [htl, hop]; rfl
        have e : (decide (s.size = 0) || decide (40 < s.size) || decide (s.data.toList = opened) || decide (s.data.toList = closed)) = true := by simp [hop]
        rw [e]
        clear e h0 htl hop
        go_enter Tryz.func34, Tryz.ntmps34
        go_wp2
        go_ret
        exact ⟨rfl, Drawn0.refl _⟩
      · have gop : (s.toList == [92, 60, 111, 112, 101, 110, 62]) = false := by rw [htl]; exact beq_eq_false_iff_ne.2 hop
        by_cases hcl : s.data.toList = closed
        · have gcl : (s.toList == [92, 60, 99, 108, 111, 115, 101, 62]) = true := by rw [htl, hcl]; rfl
          have e : (decide (s.size = 0) || decide (40 < s.size) || decide (s.data.toList = opened) || decide (s.data.toList = closed)) = true := by simp [hcl]
          rw [e]
          clear e h0 htl hop hcl
          go_enter Tryz.func34, Tryz.ntmps34
          go_wp2
          go_ret
          exact ⟨rfl, Drawn0.refl _⟩
        · have gcl : (s.toList == [92, 60, 99, 108, 111, 115, 101, 62]) = false := by rw [htl]; exact beq_eq_false_iff_ne.2 hcl
          have e : (decide (s.size = 0) || decide (40 < s.size) || decide (s.data.toList = opened) || decide (s.data.toList = closed)) = false := by rw [decide_eq_false h0, decide_eq_false h40, decide_eq_false hop, decide_eq_false hcl]; rfl
          rw [e, Bool.not_false, Bool.true_and]
          have hlt : 0 < s.size := by omega
          have hltz : (0 : Int) < (s.size : Int) := by omega
          clear e htl hop hcl h0
          have hbt : bt s 0 = ((s[0]'hlt).toNat : Int) := by unfold bt; simp [hlt]
          have HB := Lib.hid (fun w => isPoint_calls ((s[0]'hlt).toNat : Int) w)
          rw [hbt]
          clear hbt
          generalize pointB ((s[0]'hlt).toNat : Int) = pt at HB ⊢
          generalize identE s 0 = a at HI ⊢
          generalize runE s 0 = b at HR ⊢
          generalize namedE s 0 = c at HN ⊢
          by_cases ha : a = s.size
          · have ga : ((a : Int) == (s.size : Int)) = true := by simp; omega
            rw [show decide (a = s.size) = true by simpa using ha, Bool.true_or, Bool.true_or, Bool.true_or]
            clear ha
            go_enter Tryz.func34, Tryz.ntmps34
            go_wp2_with (go_at_call 42; refine (HI.out _).mono ?_; rintro e w' ⟨rfl, ⟨nd, rfl⟩⟩)
            go_ret
            exact ⟨rfl, by repeat (first | exact Drawn0.refl _ | apply Drawn0.step)⟩
          · have ga : ((a : Int) == (s.size : Int)) = false := by simp; omega
            rw [show decide (a = s.size) = false by simpa using ha, Bool.false_or]
            clear ha
            by_cases hb : b = s.size
            · have gb : ((b : Int) == (s.size : Int)) = true := by simp; omega
              rw [show decide (b = s.size) = true by simpa using hb, Bool.true_or, Bool.true_or]
              clear hb
              go_enter Tryz.func34, Tryz.ntmps34
              go_wp2_with (first | (go_at_call 42; refine (HI.out _).mono ?_; rintro e w' ⟨rfl, ⟨nd, rfl⟩⟩) | (go_at_call 43; refine (HR.out _).mono ?_; rintro e w' ⟨rfl, ⟨nd, rfl⟩⟩))
              go_ret
              exact ⟨rfl, by repeat (first | exact Drawn0.refl _ | apply Drawn0.step)⟩
            · have gb : ((b : Int) == (s.size : Int)) = false := by simp; omega
              rw [show decide (b = s.size) = false by simpa using hb, Bool.false_or]
              clear hb
              by_cases hc : c = s.size
              · have gc : ((c : Int) == (s.size : Int)) = true := by simp; omega
                rw [show decide (c = s.size) = true by simpa using hc, Bool.true_or]
                clear hc
                go_enter Tryz.func34, Tryz.ntmps34
                go_wp2_with (first | (go_at_call 42; refine (HI.out _).mono ?_; rintro e w' ⟨rfl, ⟨nd, rfl⟩⟩) | (go_at_call 43; refine (HR.out _).mono ?_; rintro e w' ⟨rfl, ⟨nd, rfl⟩⟩) | (go_at_call 44; refine (HN.out _).mono ?_; rintro e w' ⟨rfl, ⟨nd, rfl⟩⟩))
                go_ret
                exact ⟨rfl, by repeat (first | exact Drawn0.refl _ | apply Drawn0.step)⟩
              · have gc : ((c : Int) == (s.size : Int)) = false := by simp; omega
                rw [show decide (c = s.size) = false by simpa using hc, Bool.false_or]
                clear hc
                by_cases h1 : s.size = 1
                · have g1 : ((s.size : Int) == 1) = true := by simp; omega
                  rw [show decide (s.size = 1) = true by simpa using h1, Bool.true_and]
                  clear h1
                  go_enter Tryz.func34, Tryz.ntmps34
                  go_wp2_with (first | (go_at_call 42; refine (HI.out _).mono ?_; rintro e w' ⟨rfl, ⟨nd, rfl⟩⟩) | (go_at_call 43; refine (HR.out _).mono ?_; rintro e w' ⟨rfl, ⟨nd, rfl⟩⟩) | (go_at_call 44; refine (HN.out _).mono ?_; rintro e w' ⟨rfl, ⟨nd, rfl⟩⟩) | (go_at_call 45; refine (HB.out _).mono ?_; rintro e w' ⟨rfl, ⟨nd, rfl⟩⟩))
                  go_ret
                  exact ⟨rfl, by repeat (first | exact Drawn0.refl _ | apply Drawn0.step)⟩
                · have g1 : ((s.size : Int) == 1) = false := by simp; omega
                  rw [show decide (s.size = 1) = false by simpa using h1, Bool.false_and]
                  clear h1
                  go_enter Tryz.func34, Tryz.ntmps34
                  go_wp2_with (first | (go_at_call 42; refine (HI.out _).mono ?_; rintro e w' ⟨rfl, ⟨nd, rfl⟩⟩) | (go_at_call 43; refine (HR.out _).mono ?_; rintro e w' ⟨rfl, ⟨nd, rfl⟩⟩) | (go_at_call 44; refine (HN.out _).mono ?_; rintro e w' ⟨rfl, ⟨nd, rfl⟩⟩))
                  go_ret
                  exact ⟨rfl, by repeat (first | exact Drawn0.refl _ | apply Drawn0.step)⟩

/-- the place of a string in a row that is read -/
theorem str_at {w : World} {A : Option Addr} {l : List ByteArray} (h : Kd.C Kd.string w A l.length l) (k : Nat) (hk : k < l.length) : ∃ ad, A = some ad ∧ w.cell? (ad.add k) = some (.string (l[k]'hk)) := by
  obtain ⟨ad, e, hc⟩ := Kd.at_string h k (by omega) (by omega)
  refine ⟨ad, e, ?_⟩
  rw [Int.toNat_natCast] at hc
  rw [hc]
  simp [rdOf, hk]

def WordsEnd (l : List ByteArray) (E : Int) (w : World) (r : Ending) (w' : World) : Prop :=
  r = .returned (.tuple #[if E = 0 then .map (some w.heap.size) else .map none, .int .i64 E]) ∧ (E = 0 → KwSet w' w.heap.size l.length (fun t => l.any (fun x => t == x.data.toList))) ∧ Below w.heap.size w w'
theorem WordsEnd.err {l : List ByteArray} {E : Int} {w w' : World} (hE : E ≠ 0) (hb : Below w.heap.size w w') : WordsEnd l E w (.returned (.tuple #[.map none, .int .i64 E])) w' :=
  ⟨by rw [if_neg hE], fun h => absurd h hE, hb⟩

set_option maxRecDepth 100000 in
set_option maxHeartbeats 2000000 in
theorem words_calls (A : Option Addr) (c : Nat) (l : List ByteArray) (hl : ∀ x ∈ l, x.size ≤ 1000000000000) (hc : l.length ≤ c) (w : World) (hr : Kd.C Kd.string w A l.length l) :
    Calls Tryz.prog 20 #[.slice A l.length c] w fun r w' =>
      WordsEnd l (checkE l) w r w' := by
  have hmm := @run_makeMap Tryz.prog
  unfold checkE
  by_cases h500 : 500 < l.length
  · rw [if_pos h500]
    have g : (500 : Int) < (l.length : Int) := by omega
    have Hr := Lib.hid hr
    clear hr
    go_enter Tryz.func20, Tryz.ntmps20
    go_wp2
    go_ret2
    exact WordsEnd.err (by decide) (Below.refl _ _)
  · rw [if_neg h500]
    have g : ¬ (500 : Int) < (l.length : Int) := by omega
    have Hl := Lib.hid hl
    clear hl
    have Hr := Lib.hid hr
    clear hr
    generalize hE : checkL [] l = E
    have HE := Lib.hid hE
    clear hE
    go_enter Tryz.func20, Tryz.ntmps20
    go_wp2
    go_loopg [13] l.length (fun gg v wr => ∃ k : Nat, v = .int .i64 k ∧ k ≤ l.length ∧ l.length - k ≤ gg ∧ Hid (checkL (l.take k) (l.drop k) = E) ∧ KwSet wr w.heap.size k (fun t => (l.take k).any (fun x => t == x.data.toList)) ∧ Below w.heap.size w wr)
    case atStart => exact ⟨0, rfl, by omega, by omega, by simpa using HE, by simpa using KwSet.made w, (Below.refl _ _).alloc (Nat.le_refl _) _⟩
    case round =>
      obtain ⟨k, rfl, hk, hg, HL, hset, hbl⟩ := hrel
      have Hset := Lib.hid hset
      clear hset
      have Hbl := Lib.hid hbl
      clear hbl
      by_cases hlt : k < l.length
      · have hltz : (k : Int) < (l.length : Int) := by omega
        obtain ⟨ad, rfl, hcell⟩ := str_at (Kd.C_below Hr.out Hbl.out) k hlt
        have hx := Hl.out _ (List.getElem_mem hlt)
        have Hd : Hid (l.drop k = (l[k]'hlt) :: l.drop (k + 1)) := List.drop_eq_getElem_cons hlt
        have Ht : Hid (l.take (k + 1) = l.take k ++ [l[k]'hlt]) := by rw [List.take_succ_eq_append_getElem hlt]; rfl
        generalize l[k]'hlt = x at hcell hx Hd Ht
        rw [Hd.out, checkL] at HL
        have HK := Lib.hid (fun w => isKeyword_calls x hx w)
        generalize kwB x = kb at HK HL
        cases kb with
        | false =>
          obtain rfl := HL.out
          clear HL
          go_wp2_with (go_at_call 34; refine (HK.out _).mono ?_; rintro e w' ⟨rfl, ⟨nd, rfl⟩⟩)
          go_ret2
          exact WordsEnd.err (by decide) (below_drewN Hbl.out _)
        | true =>
          rw [if_pos rfl] at HL
          go_wp2_with fail
          refine (HK.out _).mono ?_
          rintro e w' ⟨rfl, ⟨nd, rfl⟩⟩
          have hset : KwSet (wr.drewN nd) w.heap.size k (fun t => (l.take k).any (fun x => t == x.data.toList)) := Hset.out.same rfl
          have hxm : x.size ≤ maxLen := by unfold maxLen; omega
          have hlook := hset.lookup x hxm
          have Hset' := Lib.hid hset
          clear hset
          generalize hany : ((l.take k).any fun y => x.data.toList == y.data.toList) = an at HL hlook
          clear hany
          cases an with
          | true =>
            rw [if_pos rfl] at HL
            obtain rfl := HL.out
            clear HL
            go_wp2
            go_ret2
            exact WordsEnd.err (by decide) (below_drewN Hbl.out _)
          | false =>
            rw [if_neg (by decide)] at HL
            obtain ⟨w2, hup, hset2, hg2⟩ := Hset'.out.update (by unfold maxLen; omega) x hxm
            have Hset2 := Lib.hid hset2
            clear hset2
            have Hg2 := Lib.hid hg2
            clear hg2
            go_wp2
            go_roundg (l.length - (k + 1))
            case measure => omega
            case rel =>
              refine ⟨k + 1, by go_num, by omega, Nat.le_refl _, ?_, ?_, ?_⟩
              · rw [Ht.out]; exact HL
              · rw [Ht.out]
                have e : (fun t => (List.take k l ++ [x]).any fun y => t == y.data.toList) = (fun t => ((List.take k l).any fun y => t == y.data.toList) || t == x.data.toList) := by
                  funext t; simp [List.any_append]
                rw [e]
                exact Hset2.out
              · exact (below_drewN Hbl.out nd).grown Hg2.out (by have := Hbl.out.size; show _ ≤ wr.heap.size; exact this) (fun k hk => by cases hk; exact Nat.le_refl _)
      · have hltz : ¬ (k : Int) < (l.length : Int) := by omega
        have hkl : k = l.length := by omega
        have Hkl := Lib.hid hkl
        clear hkl
        have hE0 := HL.out
        rw [show l.drop k = [] by rw [Hkl.out]; simp] at hE0
        obtain rfl : (0 : Int) = E := by simpa [checkL] using hE0
        clear hE0 HL
        go_wp2
        go_ret2
        refine (show WordsEnd _ _ _ _ _ from ⟨rfl, fun _ => ?_, Hbl.out⟩)
        have := Hset.out
        rw [Hkl.out] at this
        simpa using this

end Go.Proofs.YtmkfeanggmjhmaaGreat.S
