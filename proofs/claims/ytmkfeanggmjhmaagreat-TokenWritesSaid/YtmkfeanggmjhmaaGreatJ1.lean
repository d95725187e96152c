/- Rows of tokens, whatever their places; whether tokens follow others but for their places. -/
import Derived.Test.YtmkfeanggmjhmaaGreatWr1
import Derived.Deep.LoopGhost
namespace Go.Proofs.YtmkfeanggmjhmaaGreat.J
open Go Go.RowKit Go.Shelf Go.Proofs.YtmkfeanggmjhmaaGreatW.PrintWords Go.Proofs.YtmkfeanggmjhmaaGreatW.PrintLast Go.Proofs.YtmkfeanggmjhmaaGreatW.PrintMore
open Go.Proofs.YtmkfeanggmjhmaaGreat.M Go.Proofs.YtmkfeanggmjhmaaGreat.K Go.Proofs.YtmkfeanggmjhmaaGreat.S
set_option linter.unusedSimpArgs false
set_option linter.unusedVariables false

/-- a token: its kind, its text, its place -/
abbrev Tk := Int × ByteArray × Int
def tk (x : Tok) : Tk := (x.kind, x.text, (x.at_ : Int))
def tkCells (x : Tk) : List Value := [.int .i64 x.1, .string x.2.1, .int .i64 x.2.2]
theorem tk_cells (x : Tok) : tokCells x = tkCells (tk x) := rfl
theorem tk_flat (xs : List Tok) : xs.flatMap tokCells = (xs.map tk).flatMap tkCells := by
  rw [List.flatMap_map]
  rfl
theorem flat_len (xs : List Tk) : (xs.flatMap tkCells).length = xs.length * 3 := by
  induction xs with
  | nil => rfl
  | cons x r ih => rw [List.flatMap_cons, List.length_append, ih, List.length_cons]; simp only [tkCells, List.length_cons, List.length_nil]; omega
theorem flat_at : ∀ (xs : List Tk) (j : Nat) (x : Tk), xs[j]? = some x → ∀ i, i < 3 → (xs.flatMap tkCells)[j * 3 + i]? = (tkCells x)[i]?
  | [], j, x, h, i, hi => by simp at h
  | y :: r, 0, x, h, i, hi => by
    simp at h
    subst h
    rw [List.flatMap_cons, List.getElem?_append_left (by simp only [tkCells, List.length_cons, List.length_nil]; omega)]
    rw [Nat.zero_mul, Nat.zero_add]
  | y :: r, j + 1, x, h, i, hi => by
    rw [List.flatMap_cons, List.getElem?_append_right (by simp only [tkCells, List.length_cons, List.length_nil]; omega)]
    rw [show (j + 1) * 3 + i - (tkCells y).length = j * 3 + i by simp only [tkCells, List.length_cons, List.length_nil]; omega]
    exact flat_at r j x (by simpa using h) i hi
/-- tokens lie at an address -/
def CellsK (w : World) (A : Option Addr) (ts : List Tk) : Prop :=
  ts ≠ [] → ∃ g, A = some ⟨g, 0, none⟩ ∧ ∀ i (h : i < ts.length), w.cell? ⟨g, i * 3, none⟩ = some (.int .i64 (ts[i]'h).1) ∧ w.cell? ⟨g, i * 3 + 1, none⟩ = some (.string (ts[i]'h).2.1) ∧ w.cell? ⟨g, i * 3 + 2, none⟩ = some (.int .i64 (ts[i]'h).2.2)
theorem own_cells {w : World} {base : Nat} {v : Value} {ts : List Tk} (h : w.ownsRow base 30 3 v ts.length (ts.flatMap tkCells)) : ∃ A c, v = .slice A ts.length c ∧ ts.length ≤ c ∧ CellsK w A ts := by
  obtain ⟨h1, h2⟩ := h
  rcases h2 with ⟨rfl, hn⟩ | ⟨g, cap, cur, rfl, hg, hh, hc, hm, hs, ht⟩
  · have : ts = [] := List.eq_nil_of_length_eq_zero hn
    subst this
    exact ⟨none, 0, rfl, Nat.le_refl _, fun h => absurd rfl h⟩
  · refine ⟨_, cap, rfl, hc, fun _ => ⟨g, rfl, fun i hi => ?_⟩⟩
    have key : ∀ j, j < 3 → w.cell? ⟨g, i * 3 + j, none⟩ = (tkCells (ts[i]'hi))[j]? := fun j hj => by
      rw [Lib.cell_of_heap hh, ← Array.getElem?_toList, ← flat_at ts i _ (List.getElem?_eq_getElem hi) j hj, ← ht, List.getElem?_take, if_pos (by omega)]
    exact ⟨key 0 (by decide), key 1 (by decide), key 2 (by decide)⟩
theorem CellsK.below {w w' : World} {A : Option Addr} {ts : List Tk} (h : CellsK w A ts) (hb : Below w.heap.size w w') : CellsK w' A ts := by
  intro hne
  obtain ⟨g, hA, hc⟩ := h hne
  refine ⟨g, hA, fun i hi => ?_⟩
  obtain ⟨c0, c1, c2⟩ := hc i hi
  exact ⟨(hb.cell (p := ⟨g, i * 3, none⟩) (lt_of_cell c0)).trans c0, (hb.cell (p := ⟨g, i * 3 + 1, none⟩) (lt_of_cell c1)).trans c1, (hb.cell (p := ⟨g, i * 3 + 2, none⟩) (lt_of_cell c2)).trans c2⟩
theorem CellsK.take {w : World} {A : Option Addr} {ts : List Tk} (h : CellsK w A ts) (n : Nat) : CellsK w A (ts.take n) := by
  intro hne
  have hts : ts ≠ [] := fun e => hne (by rw [e]; simp)
  obtain ⟨g, hA, hc⟩ := h hts
  refine ⟨g, hA, fun i hi => ?_⟩
  rw [List.length_take] at hi
  rw [List.getElem_take]
  exact hc i (by omega)
theorem CellsK.at_ {w : World} {A : Option Addr} {ts : List Tk} (h : CellsK w A ts) {i : Nat} (hi : i < ts.length) :
    ∃ g, A = some ⟨g, 0, none⟩ ∧ w.cell? ⟨g, i * 3, none⟩ = some (.int .i64 (ts[i]'hi).1) ∧ w.cell? ⟨g, i * 3 + 1, none⟩ = some (.string (ts[i]'hi).2.1) ∧ w.cell? ⟨g, i * 3 + 2, none⟩ = some (.int .i64 (ts[i]'hi).2.2) := by
  obtain ⟨g, hA, hc⟩ := h (fun e => by rw [e] at hi; exact absurd hi (Nat.not_lt_zero _))
  exact ⟨g, hA, hc i hi⟩

/-- are tokens others, but for their places? -/
def sameK : List Tk → List Tk → Bool
  | [], [] => true
  | x :: r, y :: t => x.1 == y.1 && ((x.2.1.toList == y.2.1.toList) && sameK r t)
  | _, _ => false

set_option maxRecDepth 100000 in
set_option maxHeartbeats 3000000 in
theorem follows_calls (A : Option Addr) (c : Nat) (ts : List Tk) (B : Option Addr) (d : Nat) (us : List Tk) (w : World) (hA : CellsK w A ts) (hB : CellsK w B us) (ha : ts.length ≤ c) (hb : us.length ≤ d) (hn : ts.length ≤ 1000000000) (hm : us.length ≤ 1000000000) :
    Calls Tryz.prog 29 #[.slice A ts.length c, .slice B us.length d] w fun r w' => r = .returned (.bool (sameK ts us)) ∧ Below w.heap.size w w' := by
  have HA := Lib.hid hA
  have HB := Lib.hid hB
  clear hA hB
  generalize hS : sameK ts us = S
  have HS := Lib.hid hS
  clear hS
  go_enter Tryz.func29, Tryz.ntmps29
  go_wp2
  go_loopg [9] ts.length (fun gg v wr => ∃ i : Nat, v = .int .i64 i ∧ i ≤ ts.length ∧ i ≤ us.length ∧ ts.length - i ≤ gg ∧ Hid (sameK (ts.drop i) (us.drop i) = S) ∧ Hid (Below w.heap.size w wr))
  case atStart => exact ⟨0, by go_num, Nat.zero_le _, Nat.zero_le _, Nat.le_refl _, HS, Lib.hid (Below.refl _ _)⟩
  case round =>
    obtain ⟨i, rfl, hi, hiu, hgg, HM, HBl⟩ := hrel
    by_cases hlt : i < ts.length
    · have hltz : (i : Int) < (ts.length : Int) := by omega
      have hdr := HM.out
      rw [List.drop_eq_getElem_cons hlt] at hdr
      obtain ⟨g, rfl, x0, x1, x2⟩ := (HA.out.below HBl.out).at_ hlt
      generalize ts[i]'hlt = x at hdr x0 x1 x2
      have hal : Below wr.heap.size wr (wr.alloc (.cells #[.int .i64 x.1, .string x.2.1, .int .i64 x.2.2] 30)) := (Below.refl _ wr).alloc (Nat.le_refl _) _
      by_cases hlu : i < us.length
      · have hluz : (i : Int) < (us.length : Int) := by omega
        have gge : decide (us.length ≤ i) = false := decide_eq_false (by omega)
        have gge2 : ¬ us.length ≤ i := by omega
        rw [List.drop_eq_getElem_cons hlu] at hdr
        obtain ⟨g2, rfl, y0, y1, y2⟩ := ((HB.out.below HBl.out).below hal).at_ hlu
        generalize us[i]'hlu = y at hdr y0 y1 y2
        unfold sameK at hdr
        have HD := Lib.hid hdr
        have Hal := Lib.hid hal
        clear hdr hal
        cases hk : (x.1 == y.1) with
        | false =>
          have hd := HD.out
          rw [hk, Bool.false_and] at hd
          subst hd
          have hk' : (x.1 != y.1) = true := by simp [bne, hk]
          go_wp2
          go_region
          all_goals
            go_wp2
            go_ret
            exact ⟨rfl, below_drewN (HBl.out.trans (Hal.out.mono HBl.out.size)) 1⟩
        | true =>
          have hk' : (x.1 != y.1) = false := by simp [bne, hk]
          have hd := HD.out
          rw [hk, Bool.true_and] at hd
          cases hk2 : (x.2.1.toList == y.2.1.toList) with
          | false =>
            rw [hk2, Bool.false_and] at hd
            subst hd
            have hk2' : (x.2.1.toList != y.2.1.toList) = true := by simp [bne, hk2]
            go_wp2
            go_region
            all_goals
              go_wp2
              go_ret
              exact ⟨rfl, below_drewN (HBl.out.trans (Hal.out.mono HBl.out.size)) 1⟩
          | true =>
            rw [hk2, Bool.true_and] at hd
            have hk2' : (x.2.1.toList != y.2.1.toList) = false := by simp [bne, hk2]
            have HD2 := Lib.hid hd
            clear hd HD
            go_wp2
            go_region
            all_goals
              go_wp2
              go_roundg (ts.length - (i + 1))
              case measure => omega
              case rel => exact ⟨i + 1, by go_num, by omega, by omega, Nat.le_refl _, HD2, Lib.hid (below_drewN (HBl.out.trans (Hal.out.mono HBl.out.size)) 1)⟩
      · have hluz : ¬ (i : Int) < (us.length : Int) := by omega
        have gge : decide (us.length ≤ i) = true := decide_eq_true (by omega)
        have gge2 : us.length ≤ i := by omega
        have hun : us.drop i = [] := List.drop_eq_nil_of_le (by omega)
        rw [hun] at hdr
        have hd : false = S := by rw [← hdr]; unfold sameK; rfl
        subst hd
        clear hdr hun
        go_wp2
        go_region
        all_goals
          go_wp2
          go_ret
          exact ⟨rfl, below_drewN (HBl.out.trans (hal.mono HBl.out.size)) 1⟩
    · have hltz : ¬ (i : Int) < (ts.length : Int) := by omega
      obtain rfl : i = ts.length := by omega
      have hd : ((ts.length : Int) == (us.length : Int)) = S := by
        rw [← HM.out, List.drop_length]
        by_cases he : ts.length = us.length
        · rw [he, List.drop_length]; simp [sameK]
        · have : us.drop ts.length ≠ [] := fun e => by have := congrArg List.length e; rw [List.length_drop] at this; simp at this; omega
          cases hu : us.drop ts.length with
          | nil => exact absurd hu this
          | cons a b => simp [sameK]; omega
      have HD := Lib.hid hd
      clear hd
      go_wp2
      go_ret
      refine ⟨?_, HBl.out⟩
      rw [← HD.out]
      rfl
end Go.Proofs.YtmkfeanggmjhmaaGreat.J
