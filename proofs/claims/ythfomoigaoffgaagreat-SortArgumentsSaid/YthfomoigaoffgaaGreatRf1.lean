/- Walks of the reference of sorts: IsName, Class, known. -/
import Derived.Test.YthfomoigaoffgaaGreatSo5
import Derived.Test.YthfomoigaoffgaaGreatOa
namespace Go.Proofs.YthfomoigaoffgaaGreat.Rf
open Go Go.RowKit Go.Proofs.YthfomoigaoffgaaGreat.K Go.Proofs.YthfomoigaoffgaaGreat.G Go.Proofs.YthfomoigaoffgaaGreat.Ix Go.Proofs.YthfomoigaoffgaaGreat.O Go.Proofs.YthfomoigaoffgaaGreat.So
set_option linter.unusedSimpArgs false
set_option linter.unusedVariables false

def nmF : Bool → List UInt8 → Bool
  | _, [] => true
  | f, c :: r => (letB c || c == 95 || (!f && (digB c || c == 39 || c == 46))) && nmF false r
theorem nmF_all : ∀ l, nmF false l = l.all nameChar
  | [] => rfl
  | c :: r => by
    rw [nmF, List.all_cons, nmF_all r]
    unfold nameChar
    congr 1
    cases letB c <;> cases digB c <;> cases (c == 95) <;> cases (c == 39) <;> cases (c == 46) <;> rfl
theorem nameB_nmF (s : ByteArray) : nameB s = (decide (1 ≤ s.size) && (decide (s.size ≤ 40) && nmF true s.data.toList)) := by
  unfold nameB
  have hl : s.data.toList.length = s.size := rfl
  cases h : s.data.toList with
  | nil =>
    rw [h] at hl
    have : s.size = 0 := hl.symm
    simp [this]
  | cons c r =>
    rw [h] at hl
    have h1 : 1 ≤ s.size := by rw [← hl]; simp
    rw [decide_eq_true h1, Bool.true_and, nmF, nmF_all]
    show (decide (s.size ≤ 40) && (letB c || c == 95) && (c :: r).all nameChar) = _
    rw [List.all_cons, Bool.and_assoc]
    congr 1
    unfold nameChar
    cases letB c <;> cases digB c <;> cases (c == 95) <;> cases (c == 39) <;> cases (c == 46) <;> simp
/-- of a byte, as a number -/
def chZ (f : Bool) (x : Int) : Bool := letZ x || x == 95 || (!f && (digZ x || x == 39 || x == 46))
theorem chZ_eq (f : Bool) (c : UInt8) : chZ f (c.toNat : Int) = (letB c || c == 95 || (!f && (digB c || c == 39 || c == 46))) := by
  unfold chZ
  have e : ∀ n : UInt8, ((c.toNat : Int) == (n.toNat : Int)) = (c == n) := fun n => by
    rw [Bool.eq_iff_iff, beq_iff_eq, beq_iff_eq]
    constructor
    · intro h; exact UInt8.toNat_inj.1 (by omega)
    · intro h; rw [h]
  have e1 := e 95
  have e2 := e 39
  have e3 := e 46
  rw [letZ_eq, digZ_eq]
  rw [show ((95 : UInt8).toNat : Int) = 95 from rfl] at e1
  rw [show ((39 : UInt8).toNat : Int) = 39 from rfl] at e2
  rw [show ((46 : UInt8).toNat : Int) = 46 from rfl] at e3
  rw [e1, e2, e3]


set_option maxRecDepth 100000 in
set_option maxHeartbeats 4000000 in
theorem IsName_calls (s : ByteArray) (w : World) (hs : s.size ≤ maxLen) : Calls Tryz.prog 70 #[.string s] w fun e w' => e = .returned (.bool (nameB s)) ∧ Below w.heap.size w w' := by
  unfold maxLen at hs
  rw [nameB_nmF]
  by_cases h1 : 1 ≤ s.size
  · by_cases h40 : s.size ≤ 40
    · rw [decide_eq_true h1, decide_eq_true h40, Bool.true_and, Bool.true_and]
      generalize hR : nmF true s.data.toList = R
      have HR := Lib.hid hR
      have g1 : ¬ (s.size : Int) < 1 := by omega
      have g40 : ¬ (40 : Int) < (s.size : Int) := by omega
      clear hR h1 h40
      go_enter Tryz.func70, Tryz.ntmps70
      go_wp2
      go_loopg [3] s.size (fun gg v3 wr => ∃ i : Nat, v3 = .int .i64 i ∧ i ≤ s.size ∧ s.size - i ≤ gg ∧ Hid (nmF (decide (i = 0)) (s.data.toList.drop i) = R) ∧ Hid (Below w.heap.size w wr))
      case atStart => exact ⟨0, rfl, by omega, by omega, HR, Lib.hid (Below.refl _ _)⟩
      case round =>
        clear HR
        obtain ⟨i, rfl, hi, hg, HR, HB⟩ := hrel
        by_cases hlt : i < s.size
        · have hltz : (i : Int) < (s.size : Int) := by omega
          have Hlt := Lib.hid hlt
          have hlt' : i < s.data.toList.length := hlt
          have hr := HR.out
          rw [List.drop_eq_getElem_cons hlt', nmF, ← chZ_eq] at hr
          obtain ⟨x, hx⟩ : ∃ x : Int, ((s.data.toList[i]'hlt').toNat : Int) = x := ⟨_, rfl⟩
          rw [hx] at hr
          have hxx : ((s[i]'hlt).toNat : Int) = x := hx
          clear hx
          have hn : nmF false (s.data.toList.drop (i + 1)) = nmF (decide (i + 1 = 0)) (s.data.toList.drop (i + 1)) := by rw [decide_eq_false (by omega)]
          rw [hn] at hr
          clear hn hlt'
          obtain ⟨f, hf⟩ : ∃ f, decide (i = 0) = f := ⟨_, rfl⟩
          rw [hf] at hr
          cases hc : chZ f x with
          | true =>
            rw [hc, Bool.true_and] at hr
            have HR := Lib.hid hr
            have HC := Lib.hid hc
            clear hr hc
            by_cases a1 : (97 : Int) ≤ x <;> by_cases a2 : x ≤ 122 <;> (try (exfalso; omega)) <;> by_cases a3 : (65 : Int) ≤ x <;> (try (exfalso; omega)) <;> by_cases a4 : x ≤ 90 <;> (try (exfalso; omega)) <;> by_cases a6 : (48 : Int) ≤ x <;> (try (exfalso; omega)) <;> by_cases a7 : x ≤ 57 <;> (try (exfalso; omega)) <;>
            rcases Bool.eq_false_or_eq_true (x == 95) with a5 | a5 <;> (try (have := beq_iff_eq.1 a5; exfalso; omega)) <;> rcases Bool.eq_false_or_eq_true (x == 39) with a8 | a8 <;> (try (have := beq_iff_eq.1 a8; exfalso; omega)) <;> (try (have := beq_iff_eq.1 a5; have := beq_iff_eq.1 a8; exfalso; omega)) <;>
            rcases Bool.eq_false_or_eq_true (x == 46) with a9 | a9 <;> (try (have := beq_iff_eq.1 a9; exfalso; omega)) <;> (try (have := beq_iff_eq.1 a5; have := beq_iff_eq.1 a9; exfalso; omega)) <;> (try (have := beq_iff_eq.1 a8; have := beq_iff_eq.1 a9; exfalso; omega)) <;> by_cases a0 : i = 0
            all_goals
              have hc := HC.out
              unfold chZ letZ digZ at hc
              first
              | (exfalso; rw [← hf] at hc; simp [a0, a1, a2, a3, a4, a5, a6, a7, a8, a9] at hc; done)
              | (have a00 : ((i : Int) == 0) = true := beq_iff_eq.2 (by omega)
                 clear hc HC hf a0
                 go_wp2
                 go_roundg (s.size - (i + 1))
                 case measure => omega
                 case rel => exact ⟨i + 1, by go_num, Hlt.out, Nat.le_refl _, HR, HB⟩)
              | (have a00 : ((i : Int) == 0) = false := beq_eq_false_iff_ne.2 (by omega)
                 clear hc HC hf
                 go_wp2
                 go_roundg (s.size - (i + 1))
                 case measure => omega
                 case rel => exact ⟨i + 1, by go_num, Hlt.out, Nat.le_refl _, HR, HB⟩)
          | false =>
            rw [hc, Bool.false_and] at hr
            obtain rfl : false = R := hr
            have HC := Lib.hid hc
            clear hc
            by_cases a1 : (97 : Int) ≤ x <;> by_cases a2 : x ≤ 122 <;> (try (exfalso; omega)) <;> by_cases a3 : (65 : Int) ≤ x <;> (try (exfalso; omega)) <;> by_cases a4 : x ≤ 90 <;> (try (exfalso; omega)) <;> by_cases a6 : (48 : Int) ≤ x <;> (try (exfalso; omega)) <;> by_cases a7 : x ≤ 57 <;> (try (exfalso; omega)) <;>
            rcases Bool.eq_false_or_eq_true (x == 95) with a5 | a5 <;> (try (have := beq_iff_eq.1 a5; exfalso; omega)) <;> rcases Bool.eq_false_or_eq_true (x == 39) with a8 | a8 <;> (try (have := beq_iff_eq.1 a8; exfalso; omega)) <;> (try (have := beq_iff_eq.1 a5; have := beq_iff_eq.1 a8; exfalso; omega)) <;>
            rcases Bool.eq_false_or_eq_true (x == 46) with a9 | a9 <;> (try (have := beq_iff_eq.1 a9; exfalso; omega)) <;> (try (have := beq_iff_eq.1 a5; have := beq_iff_eq.1 a9; exfalso; omega)) <;> (try (have := beq_iff_eq.1 a8; have := beq_iff_eq.1 a9; exfalso; omega)) <;> by_cases a0 : i = 0
            all_goals
              have hc := HC.out
              unfold chZ letZ digZ at hc
              first
              | (exfalso; rw [← hf] at hc; simp [a0, a1, a2, a3, a4, a5, a6, a7, a8, a9] at hc; done)
              | (have a00 : ((i : Int) == 0) = true := beq_iff_eq.2 (by omega)
                 clear hc HC hf HR a0
                 go_wp2
                 go_ret
                 exact ⟨rfl, HB.out⟩)
              | (have a00 : ((i : Int) == 0) = false := beq_eq_false_iff_ne.2 (by omega)
                 clear hc HC hf HR
                 go_wp2
                 go_ret
                 exact ⟨rfl, HB.out⟩)
        · have hltz : ¬ (i : Int) < (s.size : Int) := by omega
          have hr := HR.out
          rw [List.drop_eq_nil_of_le (show s.data.toList.length ≤ i from by have : s.data.toList.length = s.size := rfl; omega), nmF] at hr
          subst hr
          clear HR
          go_wp2
          go_ret
          exact ⟨rfl, HB.out⟩
    · rw [decide_eq_true h1, decide_eq_false h40]
      have g1 : ¬ (s.size : Int) < 1 := by omega
      have g40 : (40 : Int) < (s.size : Int) := by omega
      clear h1 h40
      go_enter Tryz.func70, Tryz.ntmps70
      go_wp2
      go_ret
      exact ⟨rfl, Below.refl _ _⟩
  · rw [decide_eq_false h1]
    have g1 : (s.size : Int) < 1 := by omega
    clear h1
    go_enter Tryz.func70, Tryz.ntmps70
    go_wp2
    go_ret
    exact ⟨rfl, Below.refl _ _⟩

theorem thy_cells' {r : Raw} {T : Thy} {bt : Nat} {W : World} (h : W.heap[bt]? = some (.cells (thyC r T) 29 (0, 0))) :
    W.cell? ⟨bt, 0, none⟩ = some (.string r.nm) ∧ W.cell? ⟨bt, 1, none⟩ = some (.slice r.a1 T.cls.length r.c1) ∧ W.cell? ⟨bt, 2, none⟩ = some (.slice r.a2 T.tys.length r.c2) ∧ W.cell? ⟨bt, 3, none⟩ = some (.slice r.a3 T.ars.length r.c3) ∧
    W.cell? ⟨bt, 4, none⟩ = some (.slice r.a4 r.n4 r.c4) ∧ W.cell? ⟨bt, 5, none⟩ = some (.slice r.a5 r.n5 r.c5) ∧ W.cell? ⟨bt, 6, none⟩ = some (.slice r.a6 r.n6 r.c6) := by
  simp [World.cell?, h, thyC]
theorem thy_cell1 {W : World} {g : Nat} {r : Raw} {T : Thy} {t : TypeId} (h : W.heap[g]? = some (.cells (thyC r T) t (0, 0))) : W.cell? ⟨g, 1, none⟩ = some (.slice r.a1 T.cls.length r.c1) := by simp [World.cell?, h, thyC]
theorem cl_name {S : Nat → Prop} {w : World} {A : Option Addr} {l : List Cl} (h : C kCl S w A l) (j : Nat) (hj : j < l.length) : ∃ b o, A = some ⟨b, o, none⟩ ∧ b < w.heap.size ∧ w.cell? ⟨b, o + j * 2, none⟩ = some (.string (l[j]'hj).1) := by
  obtain ⟨b, o, cs, e, _, hb, hK, hc⟩ := h.at_ j hj
  obtain ⟨A', c', rfl, _, _⟩ := kCl_open hK
  exact ⟨b, o, e, hb, hc 0 _ rfl⟩

set_option maxHeartbeats 2000000 in
theorem Class_calls (S : Nat → Prop) (r : Raw) (T : Thy) (w : World) (hT : ThyR S w r T) (nm : ByteArray) :
    Calls Tryz.prog 71 #[thyV r T, .string nm] w fun e w' => e = .returned (.int .i64 (cidx T.cls nm)) ∧ Below w.heap.size w w' := by
  have HC := Lib.hid hT.cls
  have hlm : T.cls.length ≤ 9223372036854775807 := hT.cls.len
  clear hT
  generalize hR : cidx T.cls nm = R
  have HR := Lib.hid (show idxP (fun c : Cl => c.1 == nm) (T.cls.drop 0) 0 = R from hR)
  clear hR
  obtain ⟨W1, hW1⟩ : ∃ W1, w.alloc (.cells (thyC r T) 29) = W1 := ⟨_, rfl⟩
  have HB := Lib.hid (show Below w.heap.size w W1 by rw [← hW1]; exact (Below.refl _ _).alloc (Nat.le_refl _) _)
  have z1 := thy_cell1 (show W1.heap[w.heap.size]? = some (.cells (thyC r T) 29 (0, 0)) by rw [← hW1]; exact World.alloc_heap_new w _)
  unfold thyV thyC
  unfold thyC at hW1
  go_enter Tryz.func71, Tryz.ntmps71
  go_wp2
  clear hW1
  go_loopg [5] T.cls.length (fun gg v5 wr => ∃ k : Nat, v5 = .int .i64 k ∧ k ≤ T.cls.length ∧ T.cls.length - k ≤ gg ∧ Hid (idxP (fun c : Cl => c.1 == nm) (T.cls.drop k) k = R) ∧ W1 = wr)
  case atStart => exact ⟨0, rfl, by omega, by omega, HR, rfl⟩
  case round =>
    clear HR
    obtain ⟨k, rfl, hk, hg, HR, rfl⟩ := hrel
    by_cases hlt : k < T.cls.length
    · have hltz : (k : Int) < (T.cls.length : Int) := by omega
      have Hlt := Lib.hid hlt
      obtain ⟨b, o, hA, _, q0⟩ := cl_name (HC.out.below HB.out) k hlt
      rw [hA] at z1
      have hr := HR.out
      rw [idxP_drop _ _ _ hlt] at hr
      generalize T.cls[k]'hlt = x at q0 hr
      have hse := str_eq x.1 nm
      cases hq : (x.1 == nm) with
      | true =>
        rw [hq, if_pos rfl] at hr
        rw [hq] at hse
        subst hr
        clear hq HR hA
        go_wp2
        go_ret
        exact ⟨rfl, HB.out⟩
      | false =>
        rw [hq, if_neg (by decide)] at hr
        rw [hq] at hse
        have HR2 := Lib.hid hr
        have HA := Lib.hid hA
        clear hq HR hr hA
        go_wp2
        go_roundg (T.cls.length - (k + 1))
        case measure => omega
        case rel => exact ⟨k + 1, by go_num, Hlt.out, Nat.le_refl _, HR2, rfl⟩
    · have hltz : ¬ (k : Int) < (T.cls.length : Int) := by omega
      have hr := HR.out
      rw [List.drop_eq_nil_of_le (by omega)] at hr
      obtain rfl : (-1 : Int) = R := hr
      clear HR
      go_wp2
      go_ret
      exact ⟨rfl, HB.out⟩
end Go.Proofs.YthfomoigaoffgaaGreat.Rf
