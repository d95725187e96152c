/- Texts of this claim, one behind the other: Wr1, J1, J2, Wq1, Pl1, Rw, Pl2, Wq2, Row. -/
import Derived.Test.YtmkfeanggmjhmaaGreatTokenWritesV4
import Derived.Test.YtmkfeanggmjhmaaGreatWEqStruct
import Derived.Deep.LoopGhost
import Derived.Test.YtmkfeanggmjhmaaGreatPTokenWritesx8
import Derived.Test.YtmkfeanggmjhmaaGreatWMore
import Derived.Test.YtmkfeanggmjhmaaGreatRows
import Derived.WalkKit
import Derived.ProofKit
import Derived.OpenShut
import Derived.ShutString
import Derived.ChangeOld
import Derived.Below
import Derived.SizedLaws
import Derived.SliceStrings
/- Walks: how a token is written. -/
namespace Go.Proofs.YtmkfeanggmjhmaaGreat.Wr
open Go Go.RowKit Go.Shelf Go.Proofs.YtmkfeanggmjhmaaGreatW.PrintWords Go.Proofs.YtmkfeanggmjhmaaGreatW.PrintLast Go.Proofs.YtmkfeanggmjhmaaGreatW.PrintMore
open Go.Proofs.YtmkfeanggmjhmaaGreat.M Go.Proofs.YtmkfeanggmjhmaaGreat.K Go.Proofs.YtmkfeanggmjhmaaGreat.S Go.Proofs.YtmkfeanggmjhmaaGreat.Rp
set_option linter.unusedSimpArgs false
set_option linter.unusedVariables false

def tokB (x : Tok) (k : Int) (t : ByteArray) : Bool := x.kind == k && (x.text.data.toList == t.data.toList && x.at_ == 0)
/-- what writing a token returns -/
def writeE (p : List UInt8 → Bool) (k : Int) (t : ByteArray) : ByteArray × Int :=
  if 40000 < (spell k t).size then (⟨#[]⟩, 2) else match scanE p (spell k t) with
    | ([x], none) => if tokB x k t then (spell k t, 0) else (⟨#[]⟩, 2)
    | _ => (⟨#[]⟩, 2)
theorem tokB_eq (x : Tok) (k : Int) (t : ByteArray) : tokB x k t = (x.kind == k && (x.text.toList == t.toList && ((x.at_ : Int) == 0))) := by
  unfold tokB
  rw [Lib.toList_data, Lib.toList_data]
  have e : (x.at_ == 0) = ((x.at_ : Int) == 0) := by
    rw [Bool.eq_iff_iff, beq_iff_eq, beq_iff_eq]
    omega
  rw [e]
theorem spell_size (k : Int) (t : ByteArray) : (spell k t).size ≤ 2 * t.size + 15 := by
  have h1 := escL_len t.data.toList
  have h2 := cnt_le t.data.toList
  have h3 : t.data.toList.length = t.size := rfl
  unfold spell
  split
  · simp only [ByteArray.size, List.size_toArray, List.length_append] at *
    simp only [Rp.opened, Rp.closed, List.length_cons, List.length_nil]
    omega
  · split
    · simp only [ByteArray.size, List.size_toArray, List.length_append, List.length_cons, List.length_nil] at *
      omega
    · omega
theorem eqT (d : Nat) (w : World) (x0 y0 : Int) (x1 y1 : ByteArray) (x2 y2 : Int) :
    (Op.equalIn (d + 2) 30 (.agg #[.int .i64 x0, .string x1, .int .i64 x2]) (.agg #[.int .i64 y0, .string y1, .int .i64 y2])).run Tryz.prog w = .ok (x0 == y0 && (x1.toList == y1.toList && x2 == y2)) w := by
  refine eqA_of Tryz.underlying30 (by kernel_rfl) ?_
  refine eqf_cons (by rfl) (by go_simp; rfl) (by go_simp; rfl) (by go_simp) ?_
  refine eqf_cons (by rfl) (by go_simp; rfl) (by go_simp; rfl) (by go_simp) ?_
  exact eqf_last (by rfl) (by go_simp; rfl) (by go_simp; rfl) (by go_simp)
theorem neqT (w : World) (x0 y0 : Int) (x1 y1 : ByteArray) (x2 y2 : Int) :
    (binOp .neq 30 (.agg #[.int .i64 x0, .string x1, .int .i64 x2]) (.agg #[.int .i64 y0, .string y1, .int .i64 y2])).run Tryz.prog w = .ok (.bool (!(x0 == y0 && (x1.toList == y1.toList && x2 == y2)))) w := by
  have h : (Op.equal 30 (.agg #[.int .i64 x0, .string x1, .int .i64 x2]) (.agg #[.int .i64 y0, .string y1, .int .i64 y2])).run Tryz.prog w = _ := eqT 9998 w x0 y0 x1 y1 x2 y2
  simp only [binOp]
  simp [h]

set_option maxRecDepth 100000 in
set_option maxHeartbeats 4000000 in
theorem write_calls (bm n : Nat) (p : List UInt8 → Bool) (k : Int) (t : ByteArray) (q : Int) (w : World) (hk : KwSet w bm n p) (ht : t.size ≤ 1000000) :
    Calls Tryz.prog 22 #[.map (some bm), .agg #[.int .i64 k, .string t, .int .i64 q]] w fun r w' => r = .returned (.tuple #[.string (writeE p k t).1, .int .i64 (writeE p k t).2]) ∧ Below w.heap.size w w' := by
  have HSP := Lib.hid (fun w => spelled_calls k t q w ht)
  have HSC := Lib.hid (fun (s : ByteArray) (W : World) (hk : KwSet W bm n p) (hs : s.size ≤ 1000000000) => scan_calls bm n p s W hk hs)
  have HK := Lib.hid hk
  clear hk
  generalize hE : writeE p k t = E
  unfold writeE at hE
  have hsz : (spell k t).size ≤ 1000000000 := by have := spell_size k t; omega
  have hbd := Q.scan_bounds p (spell k t)
  generalize spell k t = s at HSP hE hsz hbd
  by_cases hbig : 40000 < s.size
  · have g : (40000 : Int) < (s.size : Int) := by omega
    rw [if_pos hbig] at hE
    subst hE
    clear hbig hsz hbd
    go_enter Tryz.func22, Tryz.ntmps22
    go_wp2_with fail
    refine (HSP.out _).mono ?_
    rintro e w1 ⟨rfl, hb1⟩
    go_wp2
    go_ret2
    exact ⟨rfl, ((Below.refl _ w).alloc (Nat.le_refl _) _).trans (hb1.mono (by simp))⟩
  · have g : ¬ (40000 : Int) < (s.size : Int) := by omega
    rw [if_neg hbig] at hE
    have HEE := Lib.hid hE
    have HBD := Lib.hid hbd
    clear hbig hE hbd
    go_enter Tryz.func22, Tryz.ntmps22
    go_wp2_with fail
    refine (HSP.out _).mono ?_
    rintro e w1 ⟨rfl, hb1⟩
    have hbm : bm < w.heap.size := HK.out.lt
    have hal : Below w.heap.size w (w.alloc (.cells #[.int .i64 k, .string t, .int .i64 q] 30)) := (Below.refl _ w).alloc (Nat.le_refl _) _
    have hb01 : Below w.heap.size w w1 := hal.trans (hb1.mono (by simp))
    have HK1 := Lib.hid (HK.out.same (hb01.block bm hbm))
    have hzal : (w.alloc (.cells #[.int .i64 k, .string t, .int .i64 q] 30)).heap.size = w.heap.size + 1 := by simp
    have e0 : w1.heap[w.heap.size]? = some (.cells #[.int .i64 k, .string t, .int .i64 q] 30 (0, 0)) := (hb1.block _ (by rw [hzal]; omega)).trans (World.alloc_heap_new w _)
    have E0 := Lib.hid e0
    have Hb01 := Lib.hid hb01
    clear hal hb1 hzal e0 hb01
    go_wp2_with fail
    refine (HSC.out s _ HK1.out hsz).mono ?_
    rintro e w2 ⟨v, xs, q', c, rfl, ho, hsc, hb2⟩
    have hlt := (Array.getElem?_eq_some_iff.1 E0.out).1
    have e2 := (hb2.block _ hlt).trans E0.out
    have f0 : w2.cell? ⟨w.heap.size, 0, none⟩ = some (.int .i64 k) := by rw [Lib.cell_of_heap e2]; rfl
    have f1 : w2.cell? ⟨w.heap.size, 1, none⟩ = some (.string t) := by rw [Lib.cell_of_heap e2]; rfl
    have hb02 : Below w.heap.size w w2 := Hb01.out.trans (hb2.mono Hb01.out.size)
    have Hb02 := Lib.hid hb02
    clear hb02 hlt e2 hb2 HK1 E0 Hb01 hbm
    rcases hsc with ⟨hsc, rfl, rfl⟩ | ⟨pre, q2, hsc, rfl, rfl⟩
    · match xs, hsc, ho with
      | [], hsc, ho =>
        obtain rfl : (⟨#[]⟩, 2) = E := by rw [← HEE.out, hsc]
        obtain ⟨A, cap, rfl⟩ := S.own_slice ho
        clear ho hsc
        go_wp2
        go_region
        all_goals
          go_wp2
          go_ret2
          exact ⟨rfl, below_drewN Hb02.out 1⟩
      | [x], hsc, ho =>
        obtain ⟨_, ho⟩ := ho
        rcases ho with ⟨_, h0⟩ | ⟨g, cap, cur, rfl, hg, hh, hcc, hm, hs, ht'⟩
        · cases h0
        · have hcur : ∀ j, j < 3 → cur[j]? = (tokCells x)[j]? := fun j hj => by
            have e : cur.toList.take 3 = tokCells x := by simpa using ht'
            rw [← e, List.getElem?_take, if_pos hj, Array.getElem?_toList]
          have y0 : w2.cell? ⟨g, 0, none⟩ = some (.int .i64 x.kind) := by rw [Lib.cell_of_heap hh]; exact hcur 0 (by decide)
          have y1 : w2.cell? ⟨g, 1, none⟩ = some (.string x.text) := by rw [Lib.cell_of_heap hh]; exact hcur 1 (by decide)
          have y2 : w2.cell? ⟨g, 2, none⟩ = some (.int .i64 x.at_) := by rw [Lib.cell_of_heap hh]; exact hcur 2 (by decide)
          have hnq := neqT
          have hcap : 1 ≤ cap := hcc
          clear hcur ht' hs hh hg
          cases hB : tokB x k t with
          | true =>
            have hE2 : (s, 0) = E := by rw [← HEE.out, hsc]; simp only; rw [hB]; rfl
            subst hE2
            rw [tokB_eq] at hB
            clear hsc
            go_wp2
            go_region
            all_goals
              go_wp2
              go_ret2
              exact ⟨rfl, below_drewN Hb02.out 1⟩
          | false =>
            have hE2 : (⟨#[]⟩, 2) = E := by rw [← HEE.out, hsc]; simp only; rw [hB]; rfl
            subst hE2
            rw [tokB_eq] at hB
            clear hsc
            go_wp2
            go_region
            all_goals
              go_wp2
              go_ret2
              exact ⟨rfl, below_drewN Hb02.out 1⟩
      | x :: y :: r, hsc, ho =>
        obtain rfl : (⟨#[]⟩, 2) = E := by rw [← HEE.out, hsc]
        obtain ⟨A, cap, rfl⟩ := S.own_slice ho
        have g1 : ((r.length : Int) + 1 + 1 != 1) = true := by simp; omega
        have g2 : (((x :: y :: r).length : Int) != 1) = true := by simp; omega
        clear ho hsc
        go_wp2
        go_region
        all_goals
          go_wp2
          go_ret2
          exact ⟨rfl, below_drewN Hb02.out 1⟩
    · have hc := (HBD.out.2.2 q2 c (by rw [hsc])).2
      have gc : (c != 0) = true := by rcases hc with rfl | rfl | rfl <;> rfl
      obtain rfl : (⟨#[]⟩, 2) = E := by rw [← HEE.out, hsc]; cases pre with
        | nil => rfl
        | cons a l => cases l <;> rfl
      obtain ⟨A, cap, rfl⟩ := S.own_slice ho
      clear ho hsc hc
      go_wp2
      go_region
      all_goals
        go_wp2
        go_ret2
        exact ⟨rfl, below_drewN Hb02.out 1⟩
end Go.Proofs.YtmkfeanggmjhmaaGreat.Wr
namespace Go.Proofs.YtmkfeanggmjhmaaGreat.Wr
open Go Go.RowKit Go.Shelf Go.Proofs.YtmkfeanggmjhmaaGreatW.PrintWords Go.Proofs.YtmkfeanggmjhmaaGreatW.PrintLast Go.Proofs.YtmkfeanggmjhmaaGreatW.PrintMore
open Go.Proofs.YtmkfeanggmjhmaaGreat.M Go.Proofs.YtmkfeanggmjhmaaGreat.K Go.Proofs.YtmkfeanggmjhmaaGreat.S Go.Proofs.YtmkfeanggmjhmaaGreat.Rp
set_option linter.unusedSimpArgs false
set_option linter.unusedVariables false
/-- what Write returns -/
def writeAll (l : List ByteArray) (k : Int) (t : ByteArray) : ByteArray × Int := if checkE l ≠ 0 then (⟨#[]⟩, checkE l) else writeE (kwp l) k t
set_option maxRecDepth 100000 in
set_option maxHeartbeats 2000000 in
theorem Write_calls (A : Option Addr) (c : Nat) (l : List ByteArray) (hl : ∀ x ∈ l, x.size ≤ 1000000000000) (hc : l.length ≤ c) (k : Int) (t : ByteArray) (q : Int) (ht : t.size ≤ 1000000) (w : World) (hr : Kd.C Kd.string w A l.length l) :
    Calls Tryz.prog 9 #[.slice A l.length c, .agg #[.int .i64 k, .string t, .int .i64 q]] w fun r w' => r = .returned (.tuple #[.string (writeAll l k t).1, .int .i64 (writeAll l k t).2]) ∧ Below w.heap.size w w' := by
  generalize hR : writeAll l k t = R
  unfold writeAll at hR
  have hal : ∀ {W : World} {o : Obj}, Below W.heap.size W (W.alloc o) := fun {W o} => (Below.refl _ W).alloc (Nat.le_refl _) _
  have HW := Lib.hid (fun (W : World) hr => words_calls A c l hl hc W hr)
  have Hr := Lib.hid (Kd.C_below hr (hal (o := .cells #[.int .i64 k, .string t, .int .i64 q] 30)))
  clear hr hl hc
  unfold WordsEnd at HW
  generalize hE : checkE l = E at HW hR
  clear hE
  by_cases hE0 : E = 0
  · subst hE0
    rw [if_neg (by decide)] at hR
    have HWR := Lib.hid (fun bm n (w : World) hk => write_calls bm n (kwp l) k t q w hk ht)
    rw [hR] at HWR
    clear hR
    go_enter Tryz.func9, Tryz.ntmps9
    go_wp2_with fail
    refine (HW.out _ Hr.out).mono ?_
    rintro e w1 ⟨rfl, hk, hb1⟩
    have HK := Lib.hid (hk trivial)
    have hz1 := hb1.size
    have hzal : (w.alloc (.cells #[.int .i64 k, .string t, .int .i64 q] 30)).heap.size = w.heap.size + 1 := by simp
    have e0 : w1.heap[w.heap.size]? = some (.cells #[.int .i64 k, .string t, .int .i64 q] 30 (0, 0)) := (hb1.block _ (by rw [hzal]; omega)).trans (World.alloc_heap_new w _)
    have f0 : w1.cell? ⟨w.heap.size, 0, none⟩ = some (.int .i64 k) := by rw [Lib.cell_of_heap e0]; rfl
    have f1 : w1.cell? ⟨w.heap.size, 1, none⟩ = some (.string t) := by rw [Lib.cell_of_heap e0]; rfl
    have f2 : w1.cell? ⟨w.heap.size, 2, none⟩ = some (.int .i64 q) := by rw [Lib.cell_of_heap e0]; rfl
    have hb01 : Below w.heap.size w w1 := hal.trans (hb1.mono (by simp))
    have Hb01 := Lib.hid hb01
    clear hk hb1 e0 hb01
    rw [hzal] at hz1 HK
    simp only [if_true]
    go_wp2_with (go_at_call 22; refine (HWR.out _ _ _ HK.out).mono ?_; rintro e w2 ⟨rfl, hb2⟩)
    go_ret2
    exact ⟨rfl, Hb01.out.trans (hb2.mono (by omega))⟩
  · rw [if_pos hE0] at hR
    subst hR
    have g : (E == 0) = false := by simpa using hE0
    have g' : (E != 0) = true := by simpa using hE0
    have HE0 := Lib.hid hE0
    clear hE0
    go_enter Tryz.func9, Tryz.ntmps9
    go_wp2_with fail
    refine (HW.out _ Hr.out).mono ?_
    rintro e w1 ⟨rfl, _, hb1⟩
    rw [if_neg HE0.out]
    have hb01 : Below w.heap.size w w1 := hal.trans (hb1.mono (by simp))
    clear hb1
    go_wp2
    go_ret2
    exact ⟨rfl, hb01⟩
end Go.Proofs.YtmkfeanggmjhmaaGreat.Wr

/- Rows of tokens, whatever their places; whether tokens follow others but for their places. -/
namespace Go.Proofs.YtmkfeanggmjhmaaGreat.J
open Go Go.RowKit Go.Shelf Go.Proofs.YtmkfeanggmjhmaaGreatW.PrintWords Go.Proofs.YtmkfeanggmjhmaaGreatW.PrintLast Go.Proofs.YtmkfeanggmjhmaaGreatW.PrintMore
open Go.Proofs.YtmkfeanggmjhmaaGreat.M Go.Proofs.YtmkfeanggmjhmaaGreat.K Go.Proofs.YtmkfeanggmjhmaaGreat.S
set_option linter.unusedSimpArgs false
set_option linter.unusedVariables false

/-- a token: its kind, its text, its place -/
abbrev Tk := Int × ByteArray × Int
def tk (x : Tok) : Tk := (x.kind, x.text, (x.at_ : Int))
def tkCells (x : Tk) : List Value := [.int .i64 x.1, .string x.2.1, .int .i64 x.2.2]
theorem tk_flat (xs : List Tok) : xs.flatMap tokCells = (xs.map tk).flatMap tkCells := by
  rw [List.flatMap_map]
  rfl
theorem flat_at : ∀ (xs : List Tk) (j : Nat) (x : Tk), xs[j]? = some x → ∀ i, i < 3 → (xs.flatMap tkCells)[j * 3 + i]? = (tkCells x)[i]?
  | [], j, x, h, i, hi => by simp at h
  | y :: r, 0, x, h, i, hi => by
    simp at h
    subst h
    rw [List.flatMap_cons, List.getElem?_append_left (by simp only [tkCells, List.length_cons, List.length_nil]; omega)]
    rw [Nat.zero_mul, Nat.zero_add]
  | y :: r, j + 1, x, h, i, hi => by
    rw [List.flatMap_cons, List.getElem?_append_right (by simp only [tkCells, List.length_cons, List.length_nil]; omega)]
    rw [show (j + 1) * 3 + i - (tkCells y).length = j * 3 + i by simp only [tkCells, List.length_cons, List.length_nil]; omega]
    exact flat_at r j x (by simpa using h) i hi
/-- tokens lie at an address -/
def CellsK (w : World) (A : Option Addr) (ts : List Tk) : Prop :=
  ts ≠ [] → ∃ g, A = some ⟨g, 0, none⟩ ∧ ∀ i (h : i < ts.length), w.cell? ⟨g, i * 3, none⟩ = some (.int .i64 (ts[i]'h).1) ∧ w.cell? ⟨g, i * 3 + 1, none⟩ = some (.string (ts[i]'h).2.1) ∧ w.cell? ⟨g, i * 3 + 2, none⟩ = some (.int .i64 (ts[i]'h).2.2)
theorem own_cells {w : World} {base : Nat} {v : Value} {ts : List Tk} (h : w.ownsRow base 30 3 v ts.length (ts.flatMap tkCells)) : ∃ A c, v = .slice A ts.length c ∧ ts.length ≤ c ∧ CellsK w A ts := by
  obtain ⟨h1, h2⟩ := h
  rcases h2 with ⟨rfl, hn⟩ | ⟨g, cap, cur, rfl, hg, hh, hc, hm, hs, ht⟩
  · have : ts = [] := List.eq_nil_of_length_eq_zero hn
    subst this
    exact ⟨none, 0, rfl, Nat.le_refl _, fun h => absurd rfl h⟩
  · refine ⟨_, cap, rfl, hc, fun _ => ⟨g, rfl, fun i hi => ?_⟩⟩
    have key : ∀ j, j < 3 → w.cell? ⟨g, i * 3 + j, none⟩ = (tkCells (ts[i]'hi))[j]? := fun j hj => by
      rw [Lib.cell_of_heap hh, ← Array.getElem?_toList, ← flat_at ts i _ (List.getElem?_eq_getElem hi) j hj, ← ht, List.getElem?_take, if_pos (by omega)]
    exact ⟨key 0 (by decide), key 1 (by decide), key 2 (by decide)⟩
theorem CellsK.below {w w' : World} {A : Option Addr} {ts : List Tk} (h : CellsK w A ts) (hb : Below w.heap.size w w') : CellsK w' A ts := by
  intro hne
  obtain ⟨g, hA, hc⟩ := h hne
  refine ⟨g, hA, fun i hi => ?_⟩
  obtain ⟨c0, c1, c2⟩ := hc i hi
  exact ⟨(hb.cell (p := ⟨g, i * 3, none⟩) (lt_of_cell c0)).trans c0, (hb.cell (p := ⟨g, i * 3 + 1, none⟩) (lt_of_cell c1)).trans c1, (hb.cell (p := ⟨g, i * 3 + 2, none⟩) (lt_of_cell c2)).trans c2⟩
theorem CellsK.take {w : World} {A : Option Addr} {ts : List Tk} (h : CellsK w A ts) (n : Nat) : CellsK w A (ts.take n) := by
  intro hne
  have hts : ts ≠ [] := fun e => hne (by rw [e]; simp)
  obtain ⟨g, hA, hc⟩ := h hts
  refine ⟨g, hA, fun i hi => ?_⟩
  rw [List.length_take] at hi
  rw [List.getElem_take]
  exact hc i (by omega)
theorem CellsK.at_ {w : World} {A : Option Addr} {ts : List Tk} (h : CellsK w A ts) {i : Nat} (hi : i < ts.length) :
    ∃ g, A = some ⟨g, 0, none⟩ ∧ w.cell? ⟨g, i * 3, none⟩ = some (.int .i64 (ts[i]'hi).1) ∧ w.cell? ⟨g, i * 3 + 1, none⟩ = some (.string (ts[i]'hi).2.1) ∧ w.cell? ⟨g, i * 3 + 2, none⟩ = some (.int .i64 (ts[i]'hi).2.2) := by
  obtain ⟨g, hA, hc⟩ := h (fun e => by rw [e] at hi; exact absurd hi (Nat.not_lt_zero _))
  exact ⟨g, hA, hc i hi⟩

/-- are tokens others, but for their places? -/
def sameK : List Tk → List Tk → Bool
  | [], [] => true
  | x :: r, y :: t => x.1 == y.1 && ((x.2.1.toList == y.2.1.toList) && sameK r t)
  | _, _ => false

set_option maxRecDepth 100000 in
set_option maxHeartbeats 3000000 in
theorem follows_calls (A : Option Addr) (c : Nat) (ts : List Tk) (B : Option Addr) (d : Nat) (us : List Tk) (w : World) (hA : CellsK w A ts) (hB : CellsK w B us) (ha : ts.length ≤ c) (hb : us.length ≤ d) (hn : ts.length ≤ 1000000000) (hm : us.length ≤ 1000000000) :
    Calls Tryz.prog 29 #[.slice A ts.length c, .slice B us.length d] w fun r w' => r = .returned (.bool (sameK ts us)) ∧ Below w.heap.size w w' := by
  have HA := Lib.hid hA
  have HB := Lib.hid hB
  clear hA hB
  generalize hS : sameK ts us = S
  have HS := Lib.hid hS
  clear hS
  go_enter Tryz.func29, Tryz.ntmps29
  go_wp2
  go_loopg [9] ts.length (fun gg v wr => ∃ i : Nat, v = .int .i64 i ∧ i ≤ ts.length ∧ i ≤ us.length ∧ ts.length - i ≤ gg ∧ Hid (sameK (ts.drop i) (us.drop i) = S) ∧ Hid (Below w.heap.size w wr))
  case atStart => exact ⟨0, by go_num, Nat.zero_le _, Nat.zero_le _, Nat.le_refl _, HS, Lib.hid (Below.refl _ _)⟩
  case round =>
    obtain ⟨i, rfl, hi, hiu, hgg, HM, HBl⟩ := hrel
    by_cases hlt : i < ts.length
    · have hltz : (i : Int) < (ts.length : Int) := by omega
      have hdr := HM.out
      rw [List.drop_eq_getElem_cons hlt] at hdr
      obtain ⟨g, rfl, x0, x1, x2⟩ := (HA.out.below HBl.out).at_ hlt
      generalize ts[i]'hlt = x at hdr x0 x1 x2
      have hal : Below wr.heap.size wr (wr.alloc (.cells #[.int .i64 x.1, .string x.2.1, .int .i64 x.2.2] 30)) := (Below.refl _ wr).alloc (Nat.le_refl _) _
      by_cases hlu : i < us.length
      · have hluz : (i : Int) < (us.length : Int) := by omega
        have gge : decide (us.length ≤ i) = false := decide_eq_false (by omega)
        have gge2 : ¬ us.length ≤ i := by omega
        rw [List.drop_eq_getElem_cons hlu] at hdr
        obtain ⟨g2, rfl, y0, y1, y2⟩ := ((HB.out.below HBl.out).below hal).at_ hlu
        generalize us[i]'hlu = y at hdr y0 y1 y2
        unfold sameK at hdr
        have HD := Lib.hid hdr
        have Hal := Lib.hid hal
        clear hdr hal
        cases hk : (x.1 == y.1) with
        | false =>
          have hd := HD.out
          rw [hk, Bool.false_and] at hd
          subst hd
          have hk' : (x.1 != y.1) = true := by simp [bne, hk]
          go_wp2
          go_region
          all_goals
            go_wp2
            go_ret
            exact ⟨rfl, below_drewN (HBl.out.trans (Hal.out.mono HBl.out.size)) 1⟩
        | true =>
          have hk' : (x.1 != y.1) = false := by simp [bne, hk]
          have hd := HD.out
          rw [hk, Bool.true_and] at hd
          cases hk2 : (x.2.1.toList == y.2.1.toList) with
          | false =>
            rw [hk2, Bool.false_and] at hd
            subst hd
            have hk2' : (x.2.1.toList != y.2.1.toList) = true := by simp [bne, hk2]
            go_wp2
            go_region
            all_goals
              go_wp2
              go_ret
              exact ⟨rfl, below_drewN (HBl.out.trans (Hal.out.mono HBl.out.size)) 1⟩
          | true =>
            rw [hk2, Bool.true_and] at hd
            have hk2' : (x.2.1.toList != y.2.1.toList) = false := by simp [bne, hk2]
            have HD2 := Lib.hid hd
            clear hd HD
            go_wp2
            go_region
            all_goals
              go_wp2
              go_roundg (ts.length - (i + 1))
              case measure => omega
              case rel => exact ⟨i + 1, by go_num, by omega, by omega, Nat.le_refl _, HD2, Lib.hid (below_drewN (HBl.out.trans (Hal.out.mono HBl.out.size)) 1)⟩
      · have hluz : ¬ (i : Int) < (us.length : Int) := by omega
        have gge : decide (us.length ≤ i) = true := decide_eq_true (by omega)
        have gge2 : us.length ≤ i := by omega
        have hun : us.drop i = [] := List.drop_eq_nil_of_le (by omega)
        rw [hun] at hdr
        have hd : false = S := by rw [← hdr]; unfold sameK; rfl
        subst hd
        clear hdr hun
        go_wp2
        go_region
        all_goals
          go_wp2
          go_ret
          exact ⟨rfl, below_drewN (HBl.out.trans (hal.mono HBl.out.size)) 1⟩
    · have hltz : ¬ (i : Int) < (ts.length : Int) := by omega
      obtain rfl : i = ts.length := by omega
      have hd : ((ts.length : Int) == (us.length : Int)) = S := by
        rw [← HM.out, List.drop_length]
        by_cases he : ts.length = us.length
        · rw [he, List.drop_length]; simp [sameK]
        · have : us.drop ts.length ≠ [] := fun e => by have := congrArg List.length e; rw [List.length_drop] at this; simp at this; omega
          cases hu : us.drop ts.length with
          | nil => exact absurd hu this
          | cons a b => simp [sameK]; omega
      have HD := Lib.hid hd
      clear hd
      go_wp2
      go_ret
      refine ⟨?_, HBl.out⟩
      rw [← HD.out]
      rfl
end Go.Proofs.YtmkfeanggmjhmaaGreat.J

/- Walk of Join: the shortest text of tokens. -/
namespace Go.Proofs.YtmkfeanggmjhmaaGreat.J
open Go Go.RowKit Go.Shelf Go.Proofs.YtmkfeanggmjhmaaGreatW.PrintWords Go.Proofs.YtmkfeanggmjhmaaGreatW.PrintLast Go.Proofs.YtmkfeanggmjhmaaGreatW.PrintMore
open Go.Proofs.YtmkfeanggmjhmaaGreat.M Go.Proofs.YtmkfeanggmjhmaaGreat.K Go.Proofs.YtmkfeanggmjhmaaGreat.S Go.Proofs.YtmkfeanggmjhmaaGreat.Wr
set_option linter.unusedSimpArgs false
set_option linter.unusedVariables false

def strOf (p : List UInt8 → Bool) (x : Tk) : ByteArray := (writeE p x.1 x.2.1).1
def errOf (p : List UInt8 → Bool) (x : Tk) : Int := (writeE p x.1 x.2.1).2
/-- the error of the first token that can't be written -/
def firstErr (p : List UInt8 → Bool) : List Tk → Int
  | [] => 0
  | x :: r => if errOf p x ≠ 0 then errOf p x else firstErr p r
theorem firstErr_cons (p : List UInt8 → Bool) (x : Tk) (r : List Tk) : firstErr p (x :: r) = if errOf p x ≠ 0 then errOf p x else firstErr p r := rfl
/-- may a text stand behind another one without a space? -/
def okJ (p : List UInt8 → Bool) (all : List Tk) (i : Nat) (out s : ByteArray) : Bool :=
  decide (out.size + s.size ≤ 40000) && (match scanE p (out ++ s) with
    | (xs, none) => sameK (xs.map tk) (all.take (i + 1))
    | _ => false)
def nextJ (p : List UInt8 → Bool) (all : List Tk) (i : Nat) (out s : ByteArray) : ByteArray := if okJ p all i out s then out ++ s else out ++ ⟨#[32]⟩ ++ s
def joinF (p : List UInt8 → Bool) (all : List Tk) : Nat → List ByteArray → ByteArray → ByteArray × Int
  | _, [], out => (out, 0)
  | i, s :: r, out => if 40000 < (nextJ p all i out s).size then (⟨#[]⟩, 7) else joinF p all (i + 1) r (nextJ p all i out s)
def joinE (p : List UInt8 → Bool) (ts : List Tk) : ByteArray × Int :=
  if 1000 < ts.length then (⟨#[]⟩, 5) else if firstErr p ts ≠ 0 then (⟨#[]⟩, firstErr p ts) else joinF p ts 0 (ts.map (strOf p)) ⟨#[]⟩
theorem joinF_cons (p : List UInt8 → Bool) (all : List Tk) (i : Nat) (s : ByteArray) (r : List ByteArray) (out : ByteArray) : joinF p all i (s :: r) out = if 40000 < (nextJ p all i out s).size then (⟨#[]⟩, 7) else joinF p all (i + 1) r (nextJ p all i out s) := rfl
theorem next_space {p : List UInt8 → Bool} {all : List Tk} {i : Nat} {out s : ByteArray} (h : okJ p all i out s = false) : nextJ p all i out s = out ++ ⟨#[32]⟩ ++ s := by unfold nextJ; rw [h]; rfl
theorem next_tight {p : List UInt8 → Bool} {all : List Tk} {i : Nat} {out s : ByteArray} (h : okJ p all i out s = true) : nextJ p all i out s = out ++ s := by unfold nextJ; rw [h]; rfl
theorem space_size (a b : ByteArray) : (a ++ ⟨#[32]⟩ ++ b).size = a.size + 1 + b.size := by
  rw [ByteArray.size_append, ByteArray.size_append]
  rfl
/-- what Join returns -/
def joinAll (l : List ByteArray) (ts : List Tk) : ByteArray × Int := if checkE l ≠ 0 then (⟨#[]⟩, checkE l) else joinE (kwp l) ts

def partsC (p : List UInt8 → Bool) (ts : List Tk) (i : Nat) : Array Value := ((ts.take i).map (fun x => Value.string (strOf p x)) ++ List.replicate (ts.length - i) (Value.string ⟨#[]⟩)).toArray
theorem made_strs (n : Nat) : madeCells (Value.string ⟨#[]⟩).cells n = Array.replicate n (.string ⟨#[]⟩) := by
  unfold madeCells
  apply Array.ext'
  rw [Array.toList_map, Array.toList_replicate, List.eq_replicate_iff]
  refine ⟨by simp, fun b hb => ?_⟩
  obtain ⟨x, _, rfl⟩ := List.mem_map.1 hb
  have e : x % (Value.string ⟨#[]⟩).cells.size = 0 := Nat.mod_one x
  rw [e]
  rfl
theorem partsC_zero (p : List UInt8 → Bool) (ts : List Tk) : partsC p ts 0 = Array.replicate ts.length (.string ⟨#[]⟩) := by
  apply Array.ext'
  rw [Array.toList_replicate]
  simp [partsC]
theorem partsC_size (p : List UInt8 → Bool) (ts : List Tk) (i : Nat) (h : i ≤ ts.length) : (partsC p ts i).size = ts.length := by
  simp only [partsC, List.size_toArray, List.length_append, List.length_map, List.length_take, List.length_replicate]; omega
theorem partsC_set (p : List UInt8 → Bool) (ts : List Tk) (i : Nat) (h : i < ts.length) : (partsC p ts i).setIfInBounds i (.string (strOf p (ts[i]'h))) = partsC p ts (i + 1) := by
  apply Array.ext'
  rw [Array.toList_setIfInBounds]
  obtain ⟨m, hm⟩ : ∃ m, ts.length - i = m + 1 := ⟨ts.length - i - 1, by omega⟩
  have e2 : ts.length - (i + 1) = m := by omega
  have hl : ((ts.take i).map (fun x => Value.string (strOf p x))).length = i := by rw [List.length_map, List.length_take]; omega
  simp only [partsC, hm, e2]
  rw [List.set_append_right _ _ (by rw [hl]; exact Nat.le_refl _), hl, Nat.sub_self, List.replicate_succ, List.set_cons_zero]
  have e3 : ts.take (i + 1) = ts.take i ++ [ts[i]'h] := by rw [List.take_add_one, List.getElem?_eq_getElem h]; rfl
  rw [e3, List.map_append, List.append_assoc]
  rfl
theorem partsC_at (p : List UInt8 → Bool) (ts : List Tk) (i : Nat) (h : i < ts.length) : (partsC p ts ts.length)[i]? = some (.string (strOf p (ts[i]'h))) := by
  simp only [partsC, List.getElem?_toArray, Nat.sub_self, List.replicate_zero, List.append_nil, List.take_length]
  rw [List.getElem?_map, List.getElem?_eq_getElem h]
  rfl
theorem make_strs (p : List UInt8 → Bool) (ts : List Tk) (h : ts.length ≤ 1000) (w : World) : (Instr.makeSlice 22 (.int .i64 (ts.length : Int)) (.int .i64 (ts.length : Int))).run Tryz.prog w = .ok (.slice (some ⟨w.heap.size, 0, none⟩) ts.length ts.length) (w.alloc (.cells (partsC p ts 0) 9)) := by
  obtain ⟨i0, hi, hz0, hz1, hz2⟩ := info_parts Rp.infoString
  have := run_make (P := Tryz.prog) w 22 9 i0 _ Tryz.underlying22 hi hz0 .i64 .i64 (ts.length : Int) (ts.length : Int) (by omega) (Int.le_refl _) (by rw [hz2]; omega) (by omega)
  rw [hz1, Int.toNat_natCast, Nat.mul_one, made_strs] at this
  rw [partsC_zero]
  exact this
theorem write_size (p : List UInt8 → Bool) (k : Int) (t : ByteArray) : (writeE p k t).1.size ≤ 40000 := by
  unfold writeE
  split
  · simp [ByteArray.size]
  · rename_i h
    split
    · split
      · exact Nat.le_of_not_lt h
      · simp [ByteArray.size]
    · simp [ByteArray.size]

set_option maxRecDepth 100000 in
set_option maxHeartbeats 4000000 in
theorem Join_calls (A : Option Addr) (c : Nat) (l : List ByteArray) (hl : ∀ x ∈ l, x.size ≤ 1000000000000) (hc : l.length ≤ c) (B : Option Addr) (d : Nat) (ts : List Tk) (hd : ts.length ≤ d) (hts : ∀ x ∈ ts, x.2.1.size ≤ 1000000) (hn : ts.length ≤ 1000000000) (w : World)
    (hr : Kd.C Kd.string w A l.length l) (hB : CellsK w B ts) :
    Calls Tryz.prog 13 #[.slice A l.length c, .slice B ts.length d] w fun r w' => r = .returned (.tuple #[.string (joinAll l ts).1, .int .i64 (joinAll l ts).2]) ∧ Below w.heap.size w w' := by
  generalize hR : joinAll l ts = R
  unfold joinAll at hR
  have HW := Lib.hid (words_calls A c l hl hc w hr)
  have HB0 := Lib.hid hB
  clear hr hl hB
  unfold WordsEnd at HW
  generalize hE : checkE l = E at HW hR
  clear hE
  by_cases hE0 : E = 0
  · subst hE0
    rw [if_neg (by decide)] at hR
    change Hid (Calls _ _ _ _ (fun r w' => _ ∧ (_ → KwSet w' _ _ (kwp l)) ∧ _)) at HW
    generalize kwp l = p at hR HW
    unfold joinE at hR
    by_cases hbig : 1000 < ts.length
    · rw [if_pos hbig] at hR
      subst hR
      have g : (1000 : Int) < (ts.length : Int) := by omega
      clear hbig
      go_enter Tryz.func13, Tryz.ntmps13
      go_wp2_with fail
      refine HW.out.mono ?_
      rintro e w1 ⟨rfl, _, hb1⟩
      simp only [if_true]
      go_wp2
      go_ret2
      exact ⟨rfl, hb1⟩
    · rw [if_neg hbig] at hR
      have g : ¬ (1000 : Int) < (ts.length : Int) := by omega
      have HR := Lib.hid hR
      have hmk := make_strs p ts (by omega)
      clear hR hbig
      go_enter Tryz.func13, Tryz.ntmps13
      go_wp2_with fail
      refine HW.out.mono ?_
      rintro e w1 ⟨rfl, hk, hb1⟩
      simp only [if_true]
      have HK := Lib.hid (hk trivial)
      have hlt1 := (hk trivial).lt
      have Hb1 := Lib.hid hb1
      have HB1 := Lib.hid (HB0.out.below hb1)
      clear hk hb1
      go_wp2
      go_loopg [33] ts.length (fun gg v wr => ∃ i : Nat, v = .int .i64 i ∧ i ≤ ts.length ∧ ts.length - i ≤ gg ∧ Hid (firstErr p (ts.drop i) = firstErr p ts) ∧ Hid (wr.heap[w1.heap.size]? = some (.cells (partsC p ts i) 9 (0, 0))) ∧ Hid (Below w1.heap.size w1 wr))
      case atStart => exact ⟨0, by go_num, Nat.zero_le _, Nat.le_refl _, rfl, Lib.hid (World.alloc_heap_new _ _), Lib.hid ((Below.refl _ _).alloc (Nat.le_refl _) _)⟩
      case round =>
        obtain ⟨i, rfl, hi, hgg, HF, HP, HBl⟩ := hrel
        clear hmk
        by_cases hlt : i < ts.length
        · have hltz : (i : Int) < (ts.length : Int) := by omega
          have hdr := HF.out
          rw [List.drop_eq_getElem_cons hlt] at hdr
          have hxs := hts _ (List.getElem_mem hlt)
          have hset := partsC_set p ts i hlt
          obtain ⟨g2, rfl, x0, x1, x2⟩ := (HB1.out.below HBl.out).at_ hlt
          generalize ts[i]'hlt = x at hdr x0 x1 x2 hxs hset
          have HKr := HK.out.same (HBl.out.block _ hlt1)
          have hal : Below wr.heap.size wr (wr.alloc (.cells #[.int .i64 x.1, .string x.2.1, .int .i64 x.2.2] 30)) := (Below.refl _ wr).alloc (Nat.le_refl _) _
          have hltr : w.heap.size < wr.heap.size := HKr.lt
          have HKa := HKr.same (hal.block _ hltr)
          have HWR := Lib.hid (write_calls w.heap.size l.length p x.1 x.2.1 x.2.2 _ HKa hxs)
          have hlP := (Array.getElem?_eq_some_iff.1 HP.out).1
          have Hal := Lib.hid hal
          have HSet := Lib.hid hset
          clear HKr HKa hal hset
          rw [firstErr_cons] at hdr
          have HD := Lib.hid hdr
          clear hdr
          change Hid (Calls _ _ _ _ (fun r w' => r = .returned (.tuple #[.string (strOf p x), .int .i64 (errOf p x)]) ∧ _)) at HWR
          go_wp2_with fail
          refine HWR.out.mono ?_
          rintro e5 w5 ⟨rfl, hb5⟩
          have hb6 : Below wr.heap.size wr w5 := Hal.out.trans (hb5.mono (by simp))
          have hP5 := (hb6.block _ hlP).trans HP.out
          have c5 : w5.frozen? ⟨w1.heap.size, i, none⟩ = false := Lib.frozen_of_heap hP5 _
          obtain ⟨v0, hv0⟩ : ∃ v0, w5.cell? ⟨w1.heap.size, i, none⟩ = some v0 := by
            rw [Lib.cell_of_heap hP5, Array.getElem?_eq_getElem (by rw [partsC_size _ _ _ hi]; exact hlt)]
            exact ⟨_, rfl⟩
          have HP5 := Lib.hid hP5
          have Hb6 := Lib.hid hb6
          clear hb5 hb6 hP5 x0 x1 x2
          by_cases he : errOf p x = 0
          · have g5 : (errOf p x != 0) = false := by simp [he]
            have hd2 := HD.out
            rw [if_neg (by rw [he]; decide)] at hd2
            have HD2 := Lib.hid hd2
            clear hd2 HD
            go_wp2
            go_roundg (ts.length - (i + 1))
            case measure => omega
            case rel =>
              refine ⟨i + 1, by go_num, by omega, Nat.le_refl _, HD2, Lib.hid ?_, Lib.hid ((HBl.out.trans (Hb6.out.mono HBl.out.size)).setCell (p := ⟨w1.heap.size, i, none⟩) (Nat.le_refl _) _)⟩
              rw [setCell_eq_setRow _ _ _ _ _ _ _ HP5.out, HSet.out]
              exact setRow_heap _ _ _ _ _ _ HP5.out
          · have g5 : (errOf p x != 0) = true := by simp [he]
            have hd2 := HD.out
            rw [if_pos he] at hd2
            have hR2 := HR.out
            rw [← hd2, if_pos he] at hR2
            subst hR2
            clear HD hd2 HR
            go_wp2
            go_ret2
            exact ⟨rfl, Hb1.out.trans (((HBl.out.trans (Hb6.out.mono HBl.out.size)).setCell (p := ⟨w1.heap.size, i, none⟩) (Nat.le_refl _) _).mono Hb1.out.size)⟩
        · have hltz : ¬ (i : Int) < (ts.length : Int) := by omega
          obtain rfl : i = ts.length := by omega
          have h0 : 0 = firstErr p ts := by rw [← HF.out, List.drop_length]; rfl
          have hR2 := HR.out
          rw [← h0, if_neg (by decide)] at hR2
          have HR2 := Lib.hid hR2
          have HSC := Lib.hid (fun (s : ByteArray) (W : World) (hk : KwSet W w.heap.size l.length p) (hs : s.size ≤ 1000000000) => scan_calls w.heap.size l.length p s W hk hs)
          have HFo := Lib.hid (fun A c (xs : List Tk) B d us w hA hB ha hb hn hm => follows_calls A c xs B d us w hA hB ha hb hn hm)
          clear hR2 h0 HF HR
          go_wp2
          have hW2 : ∃ W2, W2 = wr := ⟨_, rfl⟩
          obtain ⟨W2, hW2⟩ := hW2
          subst hW2
          go_loopg [11, 53] ts.length (fun gg v11 v53 wr => ∃ (i : Nat) (out : ByteArray), v11 = .string out ∧ v53 = .int .i64 i ∧ i ≤ ts.length ∧ ts.length - i ≤ gg ∧ out.size ≤ 40000 ∧ Hid (joinF p ts i ((ts.drop i).map (strOf p)) out = R) ∧ Hid (Below W2.heap.size W2 wr))
          case atStart => exact ⟨0, ⟨#[]⟩, rfl, by go_num, Nat.zero_le _, Nat.le_refl _, by decide, HR2, Lib.hid (Below.refl _ _)⟩
          case round =>
            obtain ⟨i, out, rfl, rfl, hi2, hgg2, hout, HJ, HB2⟩ := hrel
            clear HR2
            by_cases hlt : i < ts.length
            · have hltz2 : (i : Int) < (ts.length : Int) := by omega
              have hj := HJ.out
              rw [List.drop_eq_getElem_cons hlt, List.map_cons] at hj
              rw [joinF_cons] at hj
              have hpa := partsC_at p ts i hlt
              have hss : (strOf p (ts[i]'hlt)).size ≤ 40000 := write_size p _ _
              have hlP := (Array.getElem?_eq_some_iff.1 HP.out).1
              have z0 : wr.cell? ⟨w1.heap.size, i, none⟩ = some (.string (strOf p (ts[i]'hlt))) := by rw [Lib.cell_of_heap ((HB2.out.block _ hlP).trans HP.out)]; exact hpa
              generalize strOf p (ts[i]'hlt) = s at hj z0 hss hpa
              have hKr : KwSet wr w.heap.size l.length p := (HK.out.same (HBl.out.block _ hlt1)).same (HB2.out.block _ (by have := HBl.out.size; omega))
              have HKr := Lib.hid hKr
              have HJ2 := Lib.hid hj
              clear hj hKr hpa
              by_cases hsz : out.size + s.size ≤ 40000
              · have gsz : (out.size : Int) + (s.size : Int) ≤ 40000 := by omega
                have hszc : (out ++ s).size ≤ 1000000000 := by rw [ByteArray.size_append]; omega
                obtain ⟨g2, rfl, _, _, _⟩ := HB1.out.at_ hlt
                go_wp2_with fail
                refine (HSC.out (out ++ s) _ HKr.out hszc).mono ?_
                rintro e6 w6 ⟨v6, xs, q6, c6, rfl, ho6, hsc6, hb6⟩
                rw [tk_flat] at ho6
                have hlm : (xs.map tk).length = xs.length := List.length_map _
                rw [← hlm] at ho6
                obtain ⟨A6, cp6, rfl, hc6, hx6⟩ := own_cells ho6
                have Hb6 := Lib.hid hb6
                have HX6 := Lib.hid hx6
                clear ho6 hb6 hx6 HKr
                rcases hsc6 with ⟨hsc6, rfl, rfl⟩ | ⟨pre6, q7, hsc6, rfl, rfl⟩
                · have hokv : okJ p ts i out s = sameK (xs.map tk) (ts.take (i + 1)) := by
                    unfold okJ
                    rw [hsc6, decide_eq_true hsz, Bool.true_and]
                  have hxl : xs.length ≤ 1000000000 := by
                    have h1 := (Q.scan_bounds p (out ++ s)).1
                    rw [hsc6] at h1
                    exact Nat.le_trans h1 hszc
                  have htl : (ts.take (i + 1)).length = i + 1 := by rw [List.length_take]; omega
                  have hFF := HFo.out A6 cp6 (xs.map tk) (some ⟨g2, 0, none⟩) d (ts.take (i + 1)) w6 HX6.out (((((HB1.out.below HBl.out).below HB2.out).below Hb6.out)).take (i + 1)) hc6 (by rw [htl]; omega) (by rw [hlm]; exact hxl) (by rw [htl]; omega)
                  rw [htl, hlm] at hFF
                  rw [hlm] at hc6
                  have HFF := Lib.hid hFF
                  clear hsc6 hFF htl
                  rw [hlm]
                  clear hlm
                  have hidz : (i : Int) + 1 ≤ (d : Int) := by omega
                  cases hS : sameK (xs.map tk) (ts.take (i + 1)) with
                  | true =>
                    rw [hS] at HFF hokv
                    have HN := Lib.hid (next_tight hokv)
                    have hj := HJ2.out
                    rw [HN.out, if_neg (by rw [ByteArray.size_append]; omega)] at hj
                    have HJ3 := Lib.hid hj
                    have hsz3 : (out ++ s).size ≤ 40000 := by rw [ByteArray.size_append]; exact hsz
                    have hov2 : ¬ (40000 : Int) < (out.size : Int) + (s.size : Int) := by omega
                    clear hj HJ2 HJ HN hS hokv
                    go_wp2_with (go_at_call 29; refine HFF.out.mono ?_; rintro e7 w7 ⟨rfl, hb7⟩)
                    go_roundg (ts.length - (i + 1))
                    case measure => omega
                    case rel => exact ⟨i + 1, out ++ s, rfl, by go_num, by omega, Nat.le_refl _, hsz3, HJ3, Lib.hid ((HB2.out.trans (Hb6.out.mono HB2.out.size)).trans (hb7.mono (by have := HB2.out.size; have := Hb6.out.size; omega)))⟩
                  | false =>
                    rw [hS] at HFF hokv
                    have HN := Lib.hid (next_space hokv)
                    by_cases hov : 40000 < out.size + 1 + s.size
                    · have hov2 : (40000 : Int) < (out.size : Int) + 1 + (s.size : Int) := by omega
                      have hj := HJ2.out
                      rw [HN.out, if_pos (by rw [space_size]; exact hov)] at hj
                      subst hj
                      clear HJ2 HJ HN
                      go_wp2_with (go_at_call 29; refine HFF.out.mono ?_; rintro e7 w7 ⟨rfl, hb7⟩)
                      go_ret2
                      exact ⟨rfl, ((((Hb1.out.trans (HBl.out.mono Hb1.out.size)).trans (HB2.out.mono (by have := Hb1.out.size; have := HBl.out.size; omega))).trans (Hb6.out.mono (by have := Hb1.out.size; have := HBl.out.size; have := HB2.out.size; omega))).trans (hb7.mono (by have := Hb1.out.size; have := HBl.out.size; have := HB2.out.size; have := Hb6.out.size; omega)))⟩
                    · have hov2 : ¬ (40000 : Int) < (out.size : Int) + 1 + (s.size : Int) := by omega
                      have hj := HJ2.out
                      rw [HN.out, if_neg (by rw [space_size]; exact hov)] at hj
                      have HJ3 := Lib.hid hj
                      have hsz3 : (out ++ ⟨#[32]⟩ ++ s).size ≤ 40000 := by rw [space_size]; omega
                      clear hj HJ2 HJ HN
                      go_wp2_with (go_at_call 29; refine HFF.out.mono ?_; rintro e7 w7 ⟨rfl, hb7⟩)
                      go_roundg (ts.length - (i + 1))
                      case measure => omega
                      case rel => exact ⟨i + 1, out ++ ⟨#[32]⟩ ++ s, rfl, by go_num, by omega, Nat.le_refl _, hsz3, HJ3, Lib.hid ((HB2.out.trans (Hb6.out.mono HB2.out.size)).trans (hb7.mono (by have := HB2.out.size; have := Hb6.out.size; omega)))⟩
                · have hcc := ((Q.scan_bounds p (out ++ s)).2.2 q7 c6 (by rw [hsc6])).2
                  have gc : (c6 != 0) = true := by rcases hcc with rfl | rfl | rfl <;> rfl
                  have hokv : okJ p ts i out s = false := by
                    unfold okJ
                    rw [hsc6]
                    simp
                  clear hsc6 hcc
                  have HN := Lib.hid (next_space hokv)
                  by_cases hov : 40000 < out.size + 1 + s.size
                  · have hov2 : (40000 : Int) < (out.size : Int) + 1 + (s.size : Int) := by omega
                    have hj := HJ2.out
                    rw [HN.out, if_pos (by rw [space_size]; exact hov)] at hj
                    subst hj
                    clear HJ2 HJ HN
                    go_wp2
                    go_ret2
                    exact ⟨rfl, (((Hb1.out.trans (HBl.out.mono Hb1.out.size)).trans (HB2.out.mono (by have := Hb1.out.size; have := HBl.out.size; omega))).trans (Hb6.out.mono (by have := Hb1.out.size; have := HBl.out.size; have := HB2.out.size; omega)))⟩
                  · have hov2 : ¬ (40000 : Int) < (out.size : Int) + 1 + (s.size : Int) := by omega
                    have hj := HJ2.out
                    rw [HN.out, if_neg (by rw [space_size]; exact hov)] at hj
                    have HJ3 := Lib.hid hj
                    have hsz3 : (out ++ ⟨#[32]⟩ ++ s).size ≤ 40000 := by rw [space_size]; omega
                    clear hj HJ2 HJ HN
                    go_wp2
                    go_roundg (ts.length - (i + 1))
                    case measure => omega
                    case rel => exact ⟨i + 1, out ++ ⟨#[32]⟩ ++ s, rfl, by go_num, by omega, Nat.le_refl _, hsz3, HJ3, Lib.hid (HB2.out.trans (Hb6.out.mono HB2.out.size))⟩
              · have gsz : ¬ (out.size : Int) + (s.size : Int) ≤ 40000 := by omega
                have hokv : okJ p ts i out s = false := by
                  unfold okJ
                  rw [decide_eq_false hsz]
                  rfl
                have hj := HJ2.out
                rw [next_space hokv, if_pos (by rw [space_size]; omega)] at hj
                subst hj
                clear HJ2 HJ
                go_wp2
                go_ret2
                exact ⟨rfl, ((Hb1.out.trans (HBl.out.mono Hb1.out.size)).trans (HB2.out.mono (by have := Hb1.out.size; have := HBl.out.size; omega)))⟩
            · have hltz2 : ¬ (i : Int) < (ts.length : Int) := by omega
              obtain rfl : i = ts.length := by omega
              have hj := HJ.out
              rw [List.drop_length] at hj
              have hj2 : (out, 0) = R := hj
              subst hj2
              go_wp2
              go_ret2
              exact ⟨rfl, (Hb1.out.trans (HBl.out.mono Hb1.out.size)).trans (HB2.out.mono (by have := Hb1.out.size; have := HBl.out.size; omega))⟩
  · rw [if_pos hE0] at hR
    subst hR
    have g : (E == 0) = false := by simpa using hE0
    have g' : (E != 0) = true := by simpa using hE0
    rw [if_neg hE0] at HW
    clear hE0
    go_enter Tryz.func13, Tryz.ntmps13
    go_wp2_with fail
    refine HW.out.mono ?_
    rintro e w1 ⟨rfl, _, hb1⟩
    go_wp2
    go_ret2
    exact ⟨rfl, hb1⟩
end Go.Proofs.YtmkfeanggmjhmaaGreat.J

/- The printed reference's Write and Join are the plain ones. -/
namespace Go.Proofs.YtmkfeanggmjhmaaGreat.Wq
open Go Go.RowKit Go.Proofs.YtmkfeanggmjhmaaGreatW.PrintWords Go.Proofs.YtmkfeanggmjhmaaGreatW.PrintLast Go.Proofs.YtmkfeanggmjhmaaGreatW.PrintMore
open Go.Proofs.YtmkfeanggmjhmaaGreat.M Go.Proofs.YtmkfeanggmjhmaaGreat.E Go.Proofs.YtmkfeanggmjhmaaGreat.S Go.Proofs.YtmkfeanggmjhmaaGreat.Rp Go.Proofs.YtmkfeanggmjhmaaGreat.Wr Go.Proofs.YtmkfeanggmjhmaaGreat.J Go.Proofs.YtmkfeanggmjhmaaGreat.PTokenWrites
set_option linter.unusedSimpArgs false
set_option linter.unusedVariables false

def outS (t : ByteArray) (i : Nat) : ByteArray := ⟨(34 :: escL (t.data.toList.take i)).toArray⟩
theorem outS_size (t : ByteArray) (i : Nat) (h : i ≤ t.size) : (outS t i).size ≤ 2 * t.size + 1 := by
  have h1 := escL_len (t.data.toList.take i)
  have h2 := cnt_le (t.data.toList.take i)
  have h3 : t.data.toList.length = t.size := rfl
  rw [List.length_take] at h1 h2
  simp only [outS, ByteArray.size, List.size_toArray, List.length_cons] at *
  omega
theorem outS_step (t : ByteArray) (i : Nat) (h : i < t.size) : outS t (i + 1) = outS t i ++ ⟨(esc (t.data.toList[i]'h)).toArray⟩ := by
  unfold outS
  rw [cat_list, escL_take _ _ h, List.cons_append]
theorem bt_byte (t : ByteArray) (i : Nat) (h : i < t.size) : bt t i = ((t.data.toList[i]'h).toNat : Int) := L.bt_nat t i h
theorem ext_one (t : ByteArray) (i : Nat) (h : i < t.size) : t.extract i (i + 1) = ⟨[t.data.toList[i]'h].toArray⟩ := by
  apply ByteArray.ext
  rw [ByteArray.data_extract]
  apply Array.ext'
  rw [Array.toList_extract, List.extract_eq_take_drop, List.drop_eq_getElem_cons h]
  simp
theorem byte_is {b c : UInt8} (h : (b.toNat : Int) = (c.toNat : Int)) : b = c := UInt8.toNat_inj.1 (by omega)

theorem spelled_loop (kd : Int) (t : ByteArray) (q : Int) (ht : t.size ≤ 1000000) : ∀ d i : Nat, t.size - i ≤ d → i ≤ t.size →
    Evt (fun k => triforiumref14_spelled.l0 k (outS t i) i kd t q) (⟨(34 :: escL t.data.toList ++ [34]).toArray⟩ : ByteArray) := by
  have hend : ∀ i : Nat, t.size ≤ i → i ≤ t.size → Evt (fun k => triforiumref14_spelled.l0 k (outS t i) i kd t q) (⟨(34 :: escL t.data.toList ++ [34]).toArray⟩ : ByteArray) := by
    intro i h1 h2
    obtain rfl : i = t.size := by omega
    have ho := outS_size t t.size (Nat.le_refl _)
    refine Evt.succ (fun k => rfl) ?_
    refine Evt.ff (by omega) (Evt.tt (by omega) ?_)
    refine (Evt.const _).eq ?_
    unfold outS
    rw [List.take_of_length_le (show t.data.toList.length ≤ t.size from Nat.le_refl _)]
    exact cat_list _ [34]
  intro d
  induction d with
  | zero => intro i h1 h2; exact hend i (by omega) h2
  | succ d ih =>
    intro i hd hi
    by_cases hlt : i < t.size
    · have hs := outS_step t i hlt
      have hb := bt_byte t i hlt
      have ho := outS_size t i hi
      have hn := ih (i + 1) (by omega) (by omega)
      have hxs : t.extract (i : Int).toNat ((i + 1 : Nat) : Int).toNat = ⟨[t.data.toList[i]'hlt].toArray⟩ := by
        rw [Int.toNat_natCast, Int.toNat_natCast]
        exact ext_one t i hlt
      have hx1 : (t.extract (i : Int).toNat ((i + 1 : Nat) : Int).toNat).size = 1 := by rw [hxs]; rfl
      have hw : wrap64 ((i : Int) + 1) = ((i + 1 : Nat) : Int) := (w64 (by omega) (by omega)).trans (by omega)
      generalize t.data.toList[i]'hlt = b at hs hb hxs
      refine Evt.succ (fun k => rfl) ?_
      refine Evt.tt (by omega) (Evt.tt (by omega) ?_)
      have hout : (outS t i ++ (⟨#[92]⟩ : ByteArray)).size = (outS t i).size + 1 := by rw [ByteArray.size_append]; rfl
      have two : (b = 34 ∨ b = 92) → Evt (fun k => triforiumref14_spelled.l0 k ((outS t i ++ (⟨#[92]⟩ : ByteArray)) ++ (t.extract (i : Int).toNat (wrap64 ((i : Int) + 1)).toNat)) (wrap64 ((i : Int) + 1)) kd t q) (⟨(34 :: escL t.data.toList ++ [34]).toArray⟩ : ByteArray) := by
        intro hbb
        rw [hw, hxs]
        have e : outS t i ++ (⟨#[92]⟩ : ByteArray) ++ ⟨[b].toArray⟩ = outS t (i + 1) := by
          rw [hs, ByteArray.append_assoc]
          congr 1
          rcases hbb with rfl | rfl <;> rfl
        rw [e]
        exact hn
      by_cases h34 : bt t i = 34
      · refine Evt.tt h34 (Evt.succ (fun k => rfl) ?_)
        refine Evt.tt (by rw [h34]; rfl) (Evt.tt (by omega) (Evt.tt (by omega) (Evt.tt (by rw [hw]; omega) (Evt.tt (by rw [hw]; omega) (Evt.tt (by rw [hw, hx1, hout]; omega) ?_)))))
        exact two (.inl (byte_is (by rw [← hb, h34]; rfl)))
      · refine Evt.ff h34 (Evt.succ (fun k => rfl) ?_)
        by_cases h92 : bt t i = 92
        · refine Evt.tt (by rw [h92]; rfl) (Evt.tt (by omega) (Evt.tt (by omega) (Evt.tt (by rw [hw]; omega) (Evt.tt (by rw [hw]; omega) (Evt.tt (by rw [hw, hx1, hout]; omega) ?_)))))
          exact two (.inr (byte_is (by rw [← hb, h92]; rfl)))
        · refine Evt.ff (by simpa using h92) ?_
          by_cases h10 : bt t i = 10
          · refine Evt.tt h10 (Evt.tt (by omega) ?_)
            obtain rfl : b = 10 := byte_is (by rw [← hb, h10]; rfl)
            have e : outS t i ++ (⟨#[92, 110]⟩ : ByteArray) = outS t (i + 1) := hs.symm
            rw [hw, e]
            exact hn
          · refine Evt.ff h10 (Evt.tt (by omega) (Evt.tt (by rw [hw]; omega) (Evt.tt (by rw [hw]; omega) (Evt.tt (by rw [hw, hx1]; omega) ?_))))
            have e : outS t i ++ (⟨[b].toArray⟩ : ByteArray) = outS t (i + 1) := by
              rw [hs]
              congr 1
              have n1 : b ≠ 10 := fun e => h10 (by rw [hb, e]; rfl)
              have n2 : b ≠ 92 := fun e => h92 (by rw [hb, e]; rfl)
              have n3 : b ≠ 34 := fun e => h34 (by rw [hb, e]; rfl)
              unfold esc spec
              rw [if_neg n1, if_neg n2, if_neg n3]
            rw [hw, hxs, e]
            exact hn
    · exact hend i (by omega) hi
theorem spelled_ev (kd : Int) (t : ByteArray) (q : Int) (ht : t.size ≤ 1000000) : Evt (fun k => triforiumref14_spelled.f k kd t q) (spell kd t) := by
  unfold triforiumref14_spelled.f spell
  by_cases h9 : kd = 9
  · rw [if_pos h9]
    refine Evt.tt h9 (Evt.tt (by omega) (Evt.tt (by rw [ByteArray.size_append]; have : ByteArray.size (⟨#[92, 60, 111, 112, 101, 110, 62]⟩ : ByteArray) = 7 := rfl; omega) ?_))
    refine (Evt.const _).eq ?_
    have e : t = ⟨t.data.toList.toArray⟩ := by apply ByteArray.ext; simp
    have e1 := cat_list Rp.opened t.data.toList
    have e2 := cat_list (Rp.opened ++ t.data.toList) Rp.closed
    rw [← e] at e1
    rw [← e1] at e2
    exact e2
  · rw [if_neg h9]
    refine Evt.ff h9 ?_
    by_cases h8 : kd = 8
    · rw [if_pos h8]
      exact Evt.tt h8 (spelled_loop kd t q ht _ 0 (Nat.le_refl _) (Nat.zero_le _))
    · rw [if_neg h8]
      exact Evt.ff h8 (Evt.const _)

theorem ref_big {l : List ByteArray} {s : ByteArray} (h0 : checkE l = 0) (h : 40000 < s.size) : L.scanRef l s = ([], 0, 7) := by
  unfold L.scanRef
  rw [if_neg (fun h => h h0), if_pos h]
theorem ref_small {l : List ByteArray} {s : ByteArray} (h0 : checkE l = 0) (h : ¬ 40000 < s.size) : L.scanRef l s = (match scanE (kwp l) s with
    | (xs, none) => (xs, 0, 0)
    | (_, some (q, c)) => ([], q, c)) := by
  unfold L.scanRef
  rw [if_neg (fun h => h h0), if_neg h]
  rfl
theorem Write_ev (l : List ByteArray) (hx : ∀ x ∈ l, x.size ≤ 1000000000) (kd : Int) (t : ByteArray) (q : Int) (ht : t.size ≤ 1000000) :
    Evt (fun k => triforiumref14_Write.f k l kd t q) (writeAll l kd t) := by
  unfold triforiumref14_Write.f writeAll
  refine Evt.bind (L.Check_ev l hx) ?_
  by_cases h0 : checkE l = 0
  · rw [if_neg (fun h => h h0)]
    refine Evt.tt h0 ?_
    refine Evt.bind (spelled_ev kd t q ht) ?_
    refine Evt.bind (L.Scan_ev l hx _) ?_
    unfold writeE
    by_cases hbig : 40000 < (spell kd t).size
    · rw [ref_big h0 hbig, if_pos hbig]
      exact Evt.ff (by decide) (Evt.const _)
    · rw [ref_small h0 hbig, if_neg hbig]
      have hb := (Q.scan_bounds (kwp l) (spell kd t)).2.2
      generalize scanE (kwp l) (spell kd t) = R at hb
      obtain ⟨xs, _ | ⟨p, c⟩⟩ := R
      · refine Evt.tt rfl ?_
        match xs with
        | [] => exact Evt.ff (by decide) (Evt.const _)
        | x :: y :: r => exact Evt.ff (by simp only [List.length_map, List.length_cons]; omega) (Evt.const _)
        | [x] =>
          refine Evt.tt rfl (Evt.tt (by show (0 : Int) < 1; decide) ?_)
          change Evt (fun k => if x.kind = kd then (if x.text.toList = t.toList then (if (x.at_ : Int) = 0 then some (spell kd t, 0) else some (⟨#[]⟩, 2)) else some (⟨#[]⟩, 2)) else some (⟨#[]⟩, 2)) (if tokB x kd t = true then (spell kd t, 0) else (⟨#[]⟩, 2))
          rw [tokB_eq]
          by_cases a : x.kind = kd
          · by_cases b : x.text.toList = t.toList
            · by_cases d : (x.at_ : Int) = 0
              · exact (Evt.tt a (Evt.tt b (Evt.tt d (Evt.const _)))).eq (if_pos (by simp only [Bool.and_eq_true, beq_iff_eq]; exact ⟨a, b, d⟩)).symm
              · exact (Evt.tt a (Evt.tt b (Evt.ff d (Evt.const _)))).eq (if_neg (by simp only [Bool.and_eq_true, beq_iff_eq]; exact fun h => d h.2.2)).symm
            · exact (Evt.tt a (Evt.ff b (Evt.const _))).eq (if_neg (by simp only [Bool.and_eq_true, beq_iff_eq]; exact fun h => b h.2.1)).symm
          · exact (Evt.ff a (Evt.const _)).eq (if_neg (by simp only [Bool.and_eq_true, beq_iff_eq]; exact fun h => a h.1)).symm
      · have hc : c ≠ 0 := by rcases (hb p c rfl).2 with rfl | rfl | rfl <;> decide
        rcases xs with _ | ⟨x, _ | ⟨y, r⟩⟩ <;> exact Evt.ff hc (Evt.const _)
  · rw [if_pos h0]
    exact Evt.ff h0 (Evt.const _)

def tS (x : Tk) : S37 := ⟨x.1, x.2.1, x.2.2⟩
theorem rdS (xs : List Tk) (j : Nat) (h : j < xs.length) : rd_T37 (xs.map tS) (j : Int) = tS (xs[j]'h) := by
  unfold rd_T37; simp [h]
theorem map_s49 (xs : List Tok) : xs.map L.s49 = (xs.map tk).map tS := by rw [List.map_map]; rfl
theorem same_len : ∀ xs ys : List Tk, sameK xs ys = true → xs.length = ys.length
  | [], [], _ => rfl
  | [], _ :: _, h => by simp [sameK] at h
  | _ :: _, [], h => by simp [sameK] at h
  | x :: r, y :: s, h => by
    simp only [sameK, Bool.and_eq_true] at h
    rw [List.length_cons, List.length_cons, same_len r s h.2.2]
theorem same_ev (xs ys : List Tk) (hl : xs.length ≤ 1000000000) : Evt (fun k => triforiumref14_same.f k (xs.map tS) (ys.map tS)) (sameK xs ys) := by
  unfold triforiumref14_same.f
  by_cases hlen : xs.length = ys.length
  · refine Evt.tt (by rw [List.length_map, List.length_map]; omega) ?_
    have key : ∀ d j : Nat, xs.length - j ≤ d → j ≤ xs.length → Evt (fun k => triforiumref14_same.l0 k (xs.map tS) (ys.map tS) (j : Int)) (sameK (xs.drop j) (ys.drop j)) := by
      have hend : ∀ j : Nat, xs.length ≤ j → j ≤ xs.length → Evt (fun k => triforiumref14_same.l0 k (xs.map tS) (ys.map tS) (j : Int)) (sameK (xs.drop j) (ys.drop j)) := by
        intro j h1 h2
        refine Evt.succ (fun k => rfl) ?_
        refine Evt.ff (by rw [List.length_map]; omega) ?_
        rw [List.drop_of_length_le (by omega), List.drop_of_length_le (by omega)]
        exact Evt.const _
      intro d
      induction d with
      | zero => intro j h1 h2; exact hend j (by omega) h2
      | succ d ih =>
        intro j hd hj
        by_cases hlt : j < xs.length
        · have hn := ih (j + 1) (by omega) (by omega)
          have hw : wrap64 ((j : Int) + 1) = ((j + 1 : Nat) : Int) := (w64 (by omega) (by omega)).trans (by omega)
          refine Evt.succ (fun k => rfl) ?_
          refine Evt.tt (by rw [List.length_map]; omega) (Evt.tt (by omega) (Evt.tt (by rw [List.length_map]; omega) ?_))
          rw [rdS xs j hlt, rdS ys j (by omega), hw, List.drop_eq_getElem_cons hlt, List.drop_eq_getElem_cons (show j < ys.length by omega)]
          generalize xs[j]'hlt = x
          generalize ys[j]'(show j < ys.length by omega) = y
          change Evt (fun k => if x.1 = y.1 then (if x.2.1.toList = y.2.1.toList then triforiumref14_same.l0 k (xs.map tS) (ys.map tS) ((j + 1 : Nat) : Int) else some false) else some false) (x.1 == y.1 && ((x.2.1.toList == y.2.1.toList) && sameK (xs.drop (j + 1)) (ys.drop (j + 1))))
          by_cases a : x.1 = y.1
          · by_cases b : x.2.1.toList = y.2.1.toList
            · refine Evt.tt a (Evt.tt b (hn.eq ?_))
              simp [a, b]
            · refine Evt.tt a (Evt.ff b ((Evt.const _).eq ?_))
              simp [a, b]
          · refine Evt.ff a ((Evt.const _).eq ?_)
            simp [a]
        · exact hend j (by omega) hj
    exact key _ 0 (Nat.le_refl _) (Nat.zero_le _)
  · refine Evt.ff (by rw [List.length_map, List.length_map]; omega) ((Evt.const _).eq ?_)
    cases h : sameK xs ys with
    | false => rfl
    | true => exact absurd (same_len _ _ h) hlen

theorem str_spell {p : List UInt8 → Bool} {x : Tk} (h : errOf p x = 0) : strOf p x = spell x.1 x.2.1 := by
  unfold errOf at h
  unfold strOf
  unfold writeE at *
  split at h
  · exact absurd h (by decide)
  · rename_i h1
    rw [if_neg h1]
    split at h
    · rename_i x' h2
      split at h
      · rename_i h3; rw [if_pos h3]
      · exact absurd h (by decide)
    · exact absurd h (by decide)
theorem first_all {p : List UInt8 → Bool} : ∀ ts : List Tk, firstErr p ts = 0 → ∀ x ∈ ts, errOf p x = 0
  | [], _ => fun x hx => absurd hx List.not_mem_nil
  | y :: r, h => by
    rw [firstErr_cons] at h
    split at h
    · rename_i h1; exact absurd h h1
    · rename_i h1
      intro x hx
      rcases List.mem_cons.1 hx with rfl | hx
      · exact Decidable.byContradiction h1
      · exact first_all r h x hx

theorem join_loop (l : List ByteArray) (h0 : checkE l = 0) (hx : ∀ x ∈ l, x.size ≤ 1000000000) (ts : List Tk) (hts : ∀ x ∈ ts, x.2.1.size ≤ 1000000) (hn : ts.length ≤ 1000000) (he : ∀ x ∈ ts, errOf (kwp l) x = 0) :
    ∀ d (i : Nat) (out : ByteArray), ts.length - i ≤ d → i ≤ ts.length → out.size ≤ 40000 →
      Evt (fun k => triforiumref14_Join.l1 k l (ts.map tS) out i) (joinF (kwp l) ts i ((ts.drop i).map (strOf (kwp l))) out) := by
  have hend : ∀ (i : Nat) (out : ByteArray), ts.length ≤ i → Evt (fun k => triforiumref14_Join.l1 k l (ts.map tS) out i) (joinF (kwp l) ts i ((ts.drop i).map (strOf (kwp l))) out) := by
    intro i out h1
    refine Evt.succ (fun k => rfl) (Evt.ff (by rw [List.length_map]; omega) ?_)
    rw [List.drop_of_length_le h1]
    exact Evt.const _
  intro d
  induction d with
  | zero => intro i out h1 h2 h3; exact hend i out (by omega)
  | succ d ih =>
    intro i out hd hi ho
    by_cases hlt : i < ts.length
    · have hnx := fun o h => ih (i + 1) o (by omega) (by omega) h
      have hw : wrap64 ((i : Int) + 1) = ((i + 1 : Nat) : Int) := (w64 (by omega) (by omega)).trans (by omega)
      have hmem := List.getElem_mem hlt
      have hst := str_spell (he _ hmem)
      have hsp := spelled_ev (ts[i]'hlt).1 (ts[i]'hlt).2.1 (ts[i]'hlt).2.2 (hts _ hmem)
      have hss := write_size (kwp l) (ts[i]'hlt).1 (ts[i]'hlt).2.1
      change (strOf (kwp l) (ts[i]'hlt)).size ≤ 40000 at hss
      have hrd := rdS ts i hlt
      rw [List.drop_eq_getElem_cons hlt, List.map_cons, joinF_cons]
      rw [← hst] at hsp
      change Evt (fun k => triforiumref14_spelled.f k (tS (ts[i]'hlt)).f0 (tS (ts[i]'hlt)).f1 (tS (ts[i]'hlt)).f2) _ at hsp
      rw [← hrd] at hsp
      generalize strOf (kwp l) (ts[i]'hlt) = s at hsp hss
      have hlm : (ts.map tS).length = ts.length := List.length_map _
      have hsz : (out ++ s).size = out.size + s.size := ByteArray.size_append
      have j2 : Evt (fun k => triforiumref14_Join.j2 k l (ts.map tS) out i (!okJ (kwp l) ts i out s)) (if 40000 < (nextJ (kwp l) ts i out s).size then (⟨#[]⟩, 7) else joinF (kwp l) ts (i + 1) ((ts.drop (i + 1)).map (strOf (kwp l))) (nextJ (kwp l) ts i out s)) := by
        refine Evt.succ (fun k => rfl) ?_
        cases hok : okJ (kwp l) ts i out s with
        | false =>
          rw [next_space hok]
          have hz := space_size out s
          refine Evt.tt (by omega) (Evt.tt (by omega) (Evt.tt (by rw [hlm]; omega) ?_))
          refine Evt.bind hsp ?_
          refine Evt.tt (by rw [← ByteArray.size_append, hz]; omega) ?_
          by_cases hov : 40000 < (out ++ ⟨#[32]⟩ ++ s).size
          · rw [if_pos hov]
            exact Evt.tt (by omega) (Evt.const _)
          · rw [if_neg hov]
            refine Evt.ff (by omega) ?_
            rw [hw]
            exact hnx _ (by omega)
        | true =>
          rw [next_tight hok]
          repeat (refine Evt.tt (by first | omega | (rw [hlm]; omega)) ?_)
          refine Evt.bind hsp ?_
          refine Evt.tt (by omega) ?_
          by_cases hov : 40000 < (out ++ s).size
          · rw [if_pos hov]
            exact Evt.tt (by omega) (Evt.const _)
          · rw [if_neg hov]
            refine Evt.ff (by omega) ?_
            rw [hw]
            exact hnx _ (by omega)
      refine Evt.succ (fun k => rfl) ?_
      refine Evt.tt (by rw [hlm]; omega) (Evt.tt (by omega) ?_)
      refine Evt.bind hsp ?_
      refine Evt.tt (by omega) ?_
      refine Evt.bind (L.Scan_ev l hx _) ?_
      by_cases hbig : 40000 < (out ++ s).size
      · rw [ref_big h0 hbig]
        refine Evt.ff (by decide) ?_
        have hok : okJ (kwp l) ts i out s = false := by
          unfold okJ
          rw [decide_eq_false (by omega)]
          rfl
        rw [hok] at j2
        exact j2
      · rw [ref_small h0 hbig]
        have hokv : okJ (kwp l) ts i out s = (match scanE (kwp l) (out ++ s) with
            | (xs, none) => sameK (xs.map tk) (ts.take (i + 1))
            | _ => false) := by
          unfold okJ
          rw [decide_eq_true (by omega), Bool.true_and]
          all_goals rfl
        have hb := Q.scan_bounds (kwp l) (out ++ s)
        generalize scanE (kwp l) (out ++ s) = R at hb hokv
        obtain ⟨xs, _ | ⟨p, c⟩⟩ := R
        · refine Evt.tt rfl (Evt.tt (by rw [hw]; omega) (Evt.tt (by rw [hw, hlm]; omega) ?_))
          have hsame := same_ev (xs.map tk) (ts.take (i + 1)) (by rw [List.length_map]; have := hb.1; simp only at this; omega)
          rw [hw, Int.toNat_natCast, ← List.map_take]
          simp only
          rw [map_s49]
          refine Evt.bind hsame ?_
          simp only at hokv
          rw [hokv] at j2
          exact j2
        · have hc : c ≠ 0 := by rcases (hb.2.2 p c rfl).2 with rfl | rfl | rfl <;> decide
          refine Evt.ff hc ?_
          simp only at hokv
          rw [hokv] at j2
          exact j2
    · exact hend i out (by omega)

theorem Join_ev (l : List ByteArray) (hx : ∀ x ∈ l, x.size ≤ 1000000000) (ts : List Tk) (hts : ∀ x ∈ ts, x.2.1.size ≤ 1000000) :
    Evt (fun k => triforiumref14_Join.f k l (ts.map tS)) (joinAll l ts) := by
  unfold triforiumref14_Join.f joinAll
  refine Evt.bind (L.Check_ev l hx) ?_
  by_cases h0 : checkE l = 0
  · rw [if_neg (fun h => h h0)]
    refine Evt.tt h0 ?_
    unfold joinE
    rw [List.length_map]
    by_cases hbig : 1000 < ts.length
    · rw [if_pos hbig]
      exact Evt.tt (by omega) (Evt.const _)
    · rw [if_neg hbig]
      refine Evt.ff (by omega) ?_
      have key : ∀ d j : Nat, ts.length - j ≤ d → j ≤ ts.length → firstErr (kwp l) ts = firstErr (kwp l) (ts.drop j) → Evt (fun k => triforiumref14_Join.l0 k l (ts.map tS) (j : Int)) (if firstErr (kwp l) ts ≠ 0 then (⟨#[]⟩, firstErr (kwp l) ts) else joinF (kwp l) ts 0 (ts.map (strOf (kwp l))) ⟨#[]⟩) := by
        have hend : ∀ j : Nat, ts.length ≤ j → firstErr (kwp l) ts = firstErr (kwp l) (ts.drop j) → Evt (fun k => triforiumref14_Join.l0 k l (ts.map tS) (j : Int)) (if firstErr (kwp l) ts ≠ 0 then (⟨#[]⟩, firstErr (kwp l) ts) else joinF (kwp l) ts 0 (ts.map (strOf (kwp l))) ⟨#[]⟩) := by
          intro j h1 hf
          have hf0 : firstErr (kwp l) ts = 0 := by rw [hf, List.drop_of_length_le h1]; rfl
          refine Evt.succ (fun k => rfl) (Evt.ff (by rw [List.length_map]; omega) ?_)
          rw [if_neg (fun h => h hf0)]
          have := join_loop l h0 hx ts hts (by omega) (first_all ts hf0) _ 0 ⟨#[]⟩ (Nat.le_refl _) (Nat.zero_le _) (by decide)
          rw [List.drop_zero] at this
          exact this
        intro d
        induction d with
        | zero => intro j h1 h2 h3; exact hend j (by omega) h3
        | succ d ih =>
          intro j hd hj hf
          by_cases hlt : j < ts.length
          · have hw : wrap64 ((j : Int) + 1) = ((j + 1 : Nat) : Int) := (w64 (by omega) (by omega)).trans (by omega)
            refine Evt.succ (fun k => rfl) ?_
            refine Evt.tt (by rw [List.length_map]; omega) (Evt.tt (by omega) ?_)
            rw [rdS ts j hlt]
            refine Evt.bind (Write_ev l hx _ _ _ (hts _ (List.getElem_mem hlt))) ?_
            have hwa : writeAll l (tS (ts[j]'hlt)).f0 (tS (ts[j]'hlt)).f1 = (strOf (kwp l) (ts[j]'hlt), errOf (kwp l) (ts[j]'hlt)) := by
              unfold writeAll
              rw [if_neg (fun h => h h0)]
              rfl
            rw [hwa]
            rw [List.drop_eq_getElem_cons hlt, firstErr_cons] at hf
            by_cases hz : errOf (kwp l) (ts[j]'hlt) = 0
            · rw [if_neg (fun h => h hz)] at hf
              refine Evt.tt hz ?_
              rw [hw]
              exact ih (j + 1) (by omega) (by omega) hf
            · rw [if_pos hz] at hf
              refine Evt.ff hz ?_
              rw [if_pos (by rw [hf]; exact hz), hf]
              exact Evt.const _
          · exact hend j (by omega) hf
      exact key _ 0 (Nat.le_refl _) (Nat.zero_le _) rfl
  · rw [if_pos h0]
    exact Evt.ff h0 (Evt.const _)

/-- the tokens of the program, of those of the reference -/
def tP (x : Tk) : S30 := ⟨x.1, x.2.1, x.2.2⟩
theorem Tokens_ev (ts : List Tk) (hl : ts.length ≤ 1000000000) : Evt (fun k => triforiumlaw14_Tokens.f k (ts.map tS)) (ts.map tP) := by
  have key : ∀ d j : Nat, ts.length - j ≤ d → j ≤ ts.length → Evt (fun k => triforiumlaw14_Tokens.l0 k ((ts.take j).map tP) (ts.map tS) (((ts.map tS).length : Nat) : Int) (j : Int)) (ts.map tP) := by
    have hend : ∀ j : Nat, ts.length ≤ j → Evt (fun k => triforiumlaw14_Tokens.l0 k ((ts.take j).map tP) (ts.map tS) (((ts.map tS).length : Nat) : Int) (j : Int)) (ts.map tP) := by
      intro j h1
      refine Evt.succ (fun k => rfl) (Evt.ff (by rw [List.length_map]; omega) ?_)
      rw [List.take_of_length_le h1]
      exact Evt.const _
    intro d
    induction d with
    | zero => intro j h1 h2; exact hend j (by omega)
    | succ d ih =>
      intro j hd hj
      by_cases hlt : j < ts.length
      · have hw : wrap64 ((j : Int) + 1) = ((j + 1 : Nat) : Int) := (w64 (by omega) (by omega)).trans (by omega)
        refine Evt.succ (fun k => rfl) ?_
        refine Evt.tt (by rw [List.length_map]; omega) (Evt.tt (by omega) (Evt.tt (by rw [List.length_map]; omega) (Evt.tt (by rw [List.length_map, List.length_take]; omega) ?_)))
        rw [rdS ts j hlt, hw]
        have e : (ts.take j).map tP ++ [(⟨(tS (ts[j]'hlt)).f0, (tS (ts[j]'hlt)).f1, (tS (ts[j]'hlt)).f2⟩ : S30)] = (ts.take (j + 1)).map tP := by
          rw [List.take_add_one, List.getElem?_eq_getElem hlt, List.map_append]
          rfl
        rw [e]
        exact ih (j + 1) (by omega) (by omega)
      · exact hend j (by omega)
  unfold triforiumlaw14_Tokens.f
  have := key _ 0 (Nat.le_refl _) (Nat.zero_le _)
  rw [List.take_zero, List.map_nil] at this
  exact this
end Go.Proofs.YtmkfeanggmjhmaaGreat.Wq

/- A token that is read is written as it stands.  It names no program. -/
namespace Go.Proofs.YtmkfeanggmjhmaaGreat.Pl
open Go Go.RowKit Go.Proofs.YtmkfeanggmjhmaaGreatW.PrintWords Go.Proofs.YtmkfeanggmjhmaaGreat.M Go.Proofs.YtmkfeanggmjhmaaGreat.Q Go.Proofs.YtmkfeanggmjhmaaGreat.Rp Go.Proofs.YtmkfeanggmjhmaaGreat.Wr
set_option linter.unusedSimpArgs false
set_option linter.unusedVariables false

theorem bt_range (s : ByteArray) (i : Nat) : 0 ≤ bt s (i : Int) ∧ bt s (i : Int) < 256 := by
  rw [bt_opt]
  cases s.data.toList[i]? with
  | none => exact ⟨by decide, by decide⟩
  | some x =>
    have := x.toNat_lt
    simp only [Option.map_some, Option.getD_some]
    omega
theorem pre_ext {s : ByteArray} {i : Nat} {t : List UInt8} (h : preAt s i t = true) : (s.extract i (i + t.length)).data.toList = t := by
  unfold preAt at h
  rw [List.isPrefixOf_iff_prefix, List.prefix_iff_eq_take] at h
  rw [ext_list, Nat.add_sub_cancel_left]
  exact h.symm
end Go.Proofs.YtmkfeanggmjhmaaGreat.Pl

/- Rows of tokens, taken apart. -/
namespace Go.Proofs.YtmkfeanggmjhmaaGreat.Rw
open Go Go.RowKit Go.Shelf Go.Proofs.YtmkfeanggmjhmaaGreatW.PrintWords Go.Proofs.YtmkfeanggmjhmaaGreatW.PrintLast Go.Proofs.YtmkfeanggmjhmaaGreatW.PrintMore
open Go.Proofs.YtmkfeanggmjhmaaGreat.M Go.Proofs.YtmkfeanggmjhmaaGreat.K Go.Proofs.YtmkfeanggmjhmaaGreat.S
set_option linter.unusedSimpArgs false
set_option linter.unusedVariables false

theorem flat_at : ∀ (xs : List Tok) (j : Nat) (x : Tok), xs[j]? = some x → ∀ i, i < 3 → (xs.flatMap tokCells)[j * 3 + i]? = (tokCells x)[i]?
  | [], j, x, h, i, hi => by simp at h
  | y :: r, 0, x, h, i, hi => by
    simp at h
    subst h
    rw [List.flatMap_cons, List.getElem?_append_left (by simp only [tokCells, List.length_cons, List.length_nil]; omega)]
    rw [Nat.zero_mul, Nat.zero_add]
  | y :: r, j + 1, x, h, i, hi => by
    rw [List.flatMap_cons, List.getElem?_append_right (by simp only [tokCells, List.length_cons, List.length_nil]; omega)]
    rw [show (j + 1) * 3 + i - (tokCells y).length = j * 3 + i by simp only [tokCells, List.length_cons, List.length_nil]; omega]
    exact flat_at r j x (by simpa using h) i hi
end Go.Proofs.YtmkfeanggmjhmaaGreat.Rw

/- The walk of the law TokenPlaces: it returns true. -/
namespace Go.Proofs.YtmkfeanggmjhmaaGreat.Pl
open Go Go.RowKit Go.Shelf Go.Proofs.YtmkfeanggmjhmaaGreatW.PrintWords Go.Proofs.YtmkfeanggmjhmaaGreatW.PrintLast Go.Proofs.YtmkfeanggmjhmaaGreatW.PrintMore
open Go.Proofs.YtmkfeanggmjhmaaGreat.M Go.Proofs.YtmkfeanggmjhmaaGreat.K Go.Proofs.YtmkfeanggmjhmaaGreat.S Go.Proofs.YtmkfeanggmjhmaaGreat.Q Go.Proofs.YtmkfeanggmjhmaaGreat.Rp Go.Proofs.YtmkfeanggmjhmaaGreat.Wr Go.Proofs.YtmkfeanggmjhmaaGreat.Rw
set_option linter.unusedSimpArgs false
set_option linter.unusedVariables false

theorem few_sizes {most : Int} {l : List ByteArray} {s : ByteArray} (h : fewB most l s = true) : l.length ≤ 20 ∧ (s.size : Int) ≤ most ∧ ∀ x ∈ l, x.size ≤ 60 := by
  unfold fewB at h
  simp only [Bool.and_eq_true, decide_eq_true_eq, Bool.not_eq_true', List.any_eq_false, Bool.not_eq_true] at h
  refine ⟨h.1.1, h.1.2, fun x hx => ?_⟩
  have := h.2 x hx
  simp at this
  exact this
end Go.Proofs.YtmkfeanggmjhmaaGreat.Pl

/- The walk of the law TokenWrites: it returns true. -/
namespace Go.Proofs.YtmkfeanggmjhmaaGreat.Wq
open Go Go.RowKit Go.Shelf Go.Proofs.YtmkfeanggmjhmaaGreatW.PrintWords Go.Proofs.YtmkfeanggmjhmaaGreatW.PrintLast Go.Proofs.YtmkfeanggmjhmaaGreatW.PrintMore
open Go.Proofs.YtmkfeanggmjhmaaGreat.M Go.Proofs.YtmkfeanggmjhmaaGreat.K Go.Proofs.YtmkfeanggmjhmaaGreat.E Go.Proofs.YtmkfeanggmjhmaaGreat.S Go.Proofs.YtmkfeanggmjhmaaGreat.Wr Go.Proofs.YtmkfeanggmjhmaaGreat.J Go.Proofs.YtmkfeanggmjhmaaGreat.PTokenWrites
set_option linter.unusedSimpArgs false
set_option linter.unusedVariables false

theorem small1_calls (x : Tk) (w : World) :
    Calls Tryz.prog 25 #[.agg #[.int .i64 x.1, .string x.2.1, .int .i64 x.2.2]] w fun r w' => r = .returned (.bool (decide (100 < x.2.1.size))) ∧ Below w.heap.size w w' := by
  have hal : Below w.heap.size w (w.alloc (.cells #[.int .i64 x.1, .string x.2.1, .int .i64 x.2.2] 37)) := (Below.refl _ w).alloc (Nat.le_refl _) _
  by_cases h : 100 < x.2.1.size
  · have g : (100 : Int) < (x.2.1.size : Int) := by omega
    rw [decide_eq_true h]
    go_enter Tryz.func25, Tryz.ntmps25
    go_wp2
    go_ret
    exact ⟨rfl, hal⟩
  · have g : ¬ (100 : Int) < (x.2.1.size : Int) := by omega
    rw [decide_eq_false h]
    go_enter Tryz.func25, Tryz.ntmps25
    go_wp2
    go_ret
    exact ⟨rfl, hal⟩

/-- a token of a row that comes in -/
theorem ref_at {w : World} {A : Option Addr} {ts : List Tk} (h : Kd.C k37 w A ts.length (ts.map tS)) (i : Nat) (hi : i < ts.length) :
    ∃ ad, A = some ad ∧ w.cell? (ad.add (i * 3)) = some (.int .i64 (ts[i]'hi).1) ∧ w.cell? ⟨(ad.add (i * 3)).block, (ad.add (i * 3)).off + 1, none⟩ = some (.string (ts[i]'hi).2.1) ∧ w.cell? ⟨(ad.add (i * 3)).block, (ad.add (i * 3)).off + 2, none⟩ = some (.int .i64 (ts[i]'hi).2.2) := by
  obtain ⟨ad, rfl, x0, x1, x2⟩ := at_T37 h (i : Int) (by omega) (by omega)
  rw [rdS ts i hi, Int.toNat_natCast] at x0 x1 x2
  exact ⟨ad, rfl, x0, x1, x2⟩

theorem IndexFunc_tok (A : Option Addr) (c : Nat) (ts : List Tk) (hc : ts.length ≤ c) (w : World) (hr : Kd.C k37 w A ts.length (ts.map tS)) (hl : ts.length ≤ 1000000000000) :
    Calls Tryz.prog 38 #[.slice A ts.length c, .func (.func 25) #[] #[]] w fun r w' =>
      (∃ i : Int, r = .returned (.int .i64 i) ∧ (decide (0 ≤ i) = ts.any (fun x => decide (100 < x.2.1.size)))) ∧ Below w.heap.size w w' := by
  have Hr := Lib.hid hr
  clear hr
  generalize hB : ts.any (fun x => decide (100 < x.2.1.size)) = B
  have HB := Lib.hid hB
  clear hB
  go_enter Tryz.func38, Tryz.ntmps38
  go_wp2
  go_loopg [8] ts.length (fun gg v wr => ∃ k : Nat, v = .int .i64 k ∧ k ≤ ts.length ∧ ts.length - k ≤ gg ∧ Hid ((ts.drop k).any (fun x => decide (100 < x.2.1.size)) = B) ∧ Hid (Below w.heap.size w wr))
  case atStart => exact ⟨0, rfl, by omega, by omega, by simpa using HB, Lib.hid (Below.refl _ _)⟩
  case round =>
    obtain ⟨k, rfl, hk, hg, HL, HBl⟩ := hrel
    by_cases hlt : k < ts.length
    · have hltz : (k : Int) < (ts.length : Int) := by omega
      obtain ⟨ad, rfl, x0, x1, x2⟩ := ref_at (Kd.C_below Hr.out HBl.out) k hlt
      have Hd : Hid (ts.drop k = (ts[k]'hlt) :: ts.drop (k + 1)) := List.drop_eq_getElem_cons hlt
      generalize ts[k]'hlt = x at x0 x1 x2 Hd
      have HF := Lib.hid (small1_calls x wr)
      rw [Hd.out, List.any_cons] at HL
      by_cases h60 : 100 < x.2.1.size
      · rw [decide_eq_true h60] at HF HL
        rw [Bool.true_or] at HL
        obtain rfl := HL.out
        clear h60
        go_wp2_with (go_at_call 25; refine HF.out.mono ?_; rintro e w' ⟨rfl, hb⟩)
        go_ret
        exact ⟨⟨_, rfl, by simp⟩, HBl.out.trans (hb.mono HBl.out.size)⟩
      · rw [decide_eq_false h60] at HF HL
        rw [Bool.false_or] at HL
        clear h60
        go_wp2_with (go_at_call 25; refine HF.out.mono ?_; rintro e w' ⟨rfl, hb⟩)
        go_roundg (ts.length - (k + 1))
        case measure => omega
        case rel => exact ⟨k + 1, by go_num, by omega, Nat.le_refl _, HL, Lib.hid (HBl.out.trans (hb.mono HBl.out.size))⟩
    · have hltz : ¬ (k : Int) < (ts.length : Int) := by omega
      have h0 := HL.out
      rw [List.drop_eq_nil_of_le (by omega)] at h0
      clear HL
      obtain rfl : false = B := by simpa using h0
      clear h0
      go_wp2
      go_ret
      exact ⟨⟨_, rfl, by simp⟩, HBl.out⟩

theorem ContainsFunc_tok (A : Option Addr) (c : Nat) (ts : List Tk) (hc : ts.length ≤ c) (w : World) (hr : Kd.C k37 w A ts.length (ts.map tS)) (hl : ts.length ≤ 1000000000000) :
    Calls Tryz.prog 24 #[.slice A ts.length c, .func (.func 25) #[] #[]] w fun r w' =>
      r = .returned (.bool (ts.any (fun x => decide (100 < x.2.1.size)))) ∧ Below w.heap.size w w' := by
  have HI := Lib.hid (IndexFunc_tok A c ts hc w hr hl)
  clear hr
  generalize ts.any (fun x => decide (100 < x.2.1.size)) = B at HI
  go_enter Tryz.func24, Tryz.ntmps24
  go_wp2_with fail
  refine HI.out.mono ?_
  rintro e w' ⟨⟨i, rfl, hi⟩, hb⟩
  subst hi
  go_wp2
  go_ret
  exact ⟨rfl, hb⟩

def smallB (ts : List Tk) : Bool := decide (ts.length ≤ 40) && !(ts.any (fun x => decide (100 < x.2.1.size)))
theorem small_calls (A : Option Addr) (c : Nat) (ts : List Tk) (hc : ts.length ≤ c) (w : World) (hr : Kd.C k37 w A ts.length (ts.map tS)) :
    Calls Tryz.prog 11 #[.slice A ts.length c] w fun r w' => r = .returned (.bool (smallB ts)) ∧ Below w.heap.size w w' := by
  unfold smallB
  by_cases h20 : ts.length ≤ 40
  · have HI := Lib.hid (ContainsFunc_tok A c ts hc w hr (by omega))
    clear hr
    rw [decide_eq_true h20, Bool.true_and]
    have g20 : (ts.length : Int) ≤ 40 := by omega
    generalize ts.any (fun x => decide (100 < x.2.1.size)) = B at HI ⊢
    clear h20
    go_enter Tryz.func11, Tryz.ntmps11
    go_wp2_with (go_at_call 24; refine HI.out.mono ?_; rintro e w' ⟨rfl, hb⟩)
    go_ret
    exact ⟨rfl, hb⟩
  · clear hr
    rw [decide_eq_false h20, Bool.false_and]
    have g20 : ¬ (ts.length : Int) ≤ 40 := by omega
    clear h20
    go_enter Tryz.func11, Tryz.ntmps11
    go_wp2
    go_ret
    exact ⟨rfl, Below.refl _ _⟩
theorem small_sizes {ts : List Tk} (h : smallB ts = true) : ts.length ≤ 40 ∧ ∀ x ∈ ts, x.2.1.size ≤ 100 := by
  unfold smallB at h
  simp only [Bool.and_eq_true, decide_eq_true_eq, Bool.not_eq_true', List.any_eq_false, Nat.not_lt] at h
  exact h

/-- what the printed rows hold are the tokens' cells -/
theorem reps_flat {w : World} {base : Nat} {okp : Nat → Prop} : ∀ (ts : List Tk) (cs : List Value), Reps (k30.M w base okp) 3 (ts.map tP) cs → cs = ts.flatMap tkCells := by
  intro ts
  induction ts with
  | nil =>
    intro cs h
    have := h.1
    simp at this
    exact this
  | cons x r ih =>
    intro cs h
    have h0 := k30_openM (h.2 0 (tP x) rfl)
    rw [Nat.zero_mul, List.drop_zero] at h0
    have hr := ih (cs.drop 3) ⟨by have := h.1; rw [List.length_map, List.length_cons] at this; rw [List.length_drop, List.length_map]; omega, fun j p hj => by
      have := h.2 (j + 1) p (by simpa using hj)
      rw [List.drop_drop]
      rw [show 3 + j * 3 = (j + 1) * 3 by omega]
      exact this⟩
    rw [List.flatMap_cons, ← hr, ← List.take_append_drop 3 cs, h0]
    simp [tkCells, tP]
theorem kd_cells {w : World} {base : Nat} {okp : Nat → Prop} {v : Value} {ts : List Tk} (h : Kd.R k30 30 w base okp v (ts.map tP)) : ∃ A c, v = .slice A ts.length c ∧ ts.length ≤ c ∧ CellsK w A ts := by
  obtain ⟨_, cs, ho, hr⟩ := h
  obtain rfl := reps_flat ts cs hr
  rw [List.length_map] at ho
  exact own_cells ho

set_option maxRecDepth 100000 in
set_option maxHeartbeats 4000000 in
theorem TokenWrites_calls (A : Option Addr) (c : Nat) (l : List ByteArray) (hc : l.length ≤ c) (B : Option Addr) (d : Nat) (ts : List Tk) (hd : ts.length ≤ d) (w : World) (hr : Kd.C Kd.string w A l.length l) (hB : Kd.C k37 w B ts.length (ts.map tS)) :
    Calls Tryz.prog 4 #[.slice A l.length c, .slice B ts.length d] w fun r w' => r = .returned (.bool true) ∧ Below w.heap.size w w' := by
  have HF := Lib.hid (fun w hr => Few_calls 0 A c l hc ⟨#[]⟩ w hr)
  have HS := Lib.hid (fun w hr => small_calls B d ts hd w hr)
  have HA := Lib.hid awake_calls
  have Hr := Lib.hid hr
  have HB := Lib.hid hB
  clear hr hB
  cases hf : fewB 0 l ⟨#[]⟩ with
  | false =>
    rw [hf] at HF
    clear hf
    go_enter Tryz.func4, Tryz.ntmps4
    go_wp2_with (go_at_call 6; refine (HF.out _ Hr.out).mono ?_; rintro e w' ⟨rfl, rfl⟩)
    go_wp2_with fail
    refine (HA.out _).mono ?_
    rintro e w2 ⟨rfl, hb⟩
    go_wp2
    go_ret
    exact ⟨rfl, hb⟩
  | true =>
    rw [hf] at HF
    obtain ⟨hl20, _, hx⟩ := Pl.few_sizes hf
    clear hf
    cases hs : smallB ts with
    | false =>
      rw [hs] at HS
      clear hs
      go_enter Tryz.func4, Tryz.ntmps4
      go_wp2_with (go_at_call 6; refine (HF.out _ Hr.out).mono ?_; rintro e w' ⟨rfl, rfl⟩)
      go_wp2_with (go_at_call 11; refine (HS.out _ HB.out).mono ?_; rintro e w1 ⟨rfl, hb1⟩)
      go_wp2_with fail
      refine (HA.out _).mono ?_
      rintro e w2 ⟨rfl, hb⟩
      go_wp2
      go_ret
      exact ⟨rfl, hb1.trans (hb.mono hb1.size)⟩
    | true =>
      rw [hs] at HS
      obtain ⟨hn40, hts⟩ := small_sizes hs
      clear hs
      have hx12 : ∀ x ∈ l, x.size ≤ 1000000000000 := fun x h => Nat.le_trans (hx x h) (by decide)
      have hx9 : ∀ x ∈ l, x.size ≤ 1000000000 := fun x h => Nat.le_trans (hx x h) (by decide)
      have ht6 : ∀ x ∈ ts, x.2.1.size ≤ 1000000 := fun x h => Nat.le_trans (hts x h) (by decide)
      have HW1 := Lib.hid (fun k t q ht w hr => Write_calls A c l hx12 hc k t q ht w hr)
      have hw2 : ∀ (k : Int) (t : ByteArray) (q : Int), t.size ≤ 1000000 → ∀ w, Kd.C Kd.string w A l.length l → Calls Tryz.prog 12 #[.slice A l.length c, .agg #[.int .i64 k, .string t, .int .i64 q]] w fun e w' => e = .returned (.tuple #[.string (writeAll l k t).1, .int .i64 (writeAll l k t).2]) ∧ Below w.heap.size w w' := fun k t q ht w hr => by
        obtain ⟨n, hn⟩ := (Write_ev l hx9 k t q ht).at_
        exact triforiumref14_Write.calls n A c l k t q (writeAll l k t).1 (writeAll l k t).2 w hr hc hn
      have HW2 := Lib.hid hw2
      clear hw2
      obtain ⟨n3, hn3⟩ := (Tokens_ev ts (by omega)).at_
      obtain ⟨n4, hn4⟩ := (Join_ev l hx9 ts ht6).at_
      have hlm : (ts.map tS).length = ts.length := List.length_map _
      have HT := Lib.hid (fun w hr => triforiumlaw14_Tokens.calls n3 B d (ts.map tS) (ts.map tP) w hr (by rw [hlm]; exact hd) hn3)
      have HJ1 := Lib.hid (fun E e he w hr hE => Join_calls A c l hx12 hc E e ts he ht6 (by omega) w hr hE)
      have HJ2 := Lib.hid (fun w hr hr2 => triforiumref14_Join.calls n4 A c l B d (ts.map tS) (joinAll l ts).1 (joinAll l ts).2 w hr hc hr2 (by rw [hlm]; exact hd) hn4)
      rw [hlm] at HT HJ2
      generalize joinAll l ts = R at HJ1 HJ2
      have hwa : ∀ x : Tk, ∃ r1 r2, writeAll l x.1 x.2.1 = (r1, r2) := fun x => ⟨_, _, rfl⟩
      clear hn3 hn4 hx hx12 hx9 hts
      go_enter Tryz.func4, Tryz.ntmps4
      go_wp2_with (go_at_call 6; refine (HF.out _ Hr.out).mono ?_; rintro e w' ⟨rfl, rfl⟩)
      go_wp2_with (go_at_call 11; refine (HS.out _ HB.out).mono ?_; rintro e w1 ⟨rfl, hb1⟩)
      have Hb1 := Lib.hid hb1
      have Hr1 := Lib.hid (Kd.C_below Hr.out hb1)
      have HB1 := Lib.hid (Kd.C_below HB.out hb1)
      clear hb1
      go_loopg [26] ts.length (fun gg v wr => ∃ i : Nat, v = .int .i64 i ∧ i ≤ ts.length ∧ ts.length - i ≤ gg ∧ Hid (Below w1.heap.size w1 wr))
      case atStart => exact ⟨0, by go_num, Nat.zero_le _, Nat.le_refl _, Lib.hid (Below.refl _ _)⟩
      case round =>
        obtain ⟨i, rfl, hi, hgg, HBl⟩ := hrel
        by_cases hlt : i < ts.length
        · have hltz : (i : Int) < (ts.length : Int) := by omega
          have hxs := ht6 _ (List.getElem_mem hlt)
          obtain ⟨ad, rfl, x0, x1, x2⟩ := ref_at (Kd.C_below HB1.out HBl.out) i hlt
          generalize ts[i]'hlt = x at x0 x1 x2 hxs
          have hal : Below wr.heap.size wr (wr.alloc (.cells #[.int .i64 x.1, .string x.2.1, .int .i64 x.2.2] 37)) := (Below.refl _ wr).alloc (Nat.le_refl _) _
          have HV1 := Lib.hid (HW1.out x.1 x.2.1 x.2.2 hxs _ (Kd.C_below (Kd.C_below Hr1.out HBl.out) hal))
          have HV2 := Lib.hid (HW2.out x.1 x.2.1 x.2.2 hxs)
          generalize writeAll l x.1 x.2.1 = V at HV1 HV2
          have Hal := Lib.hid hal
          clear hal
          go_wp2_with fail
          refine HV1.out.mono ?_
          rintro e w5 ⟨rfl, hb5⟩
          have hz : wr.heap.size < (wr.alloc (.cells #[.int .i64 x.1, .string x.2.1, .int .i64 x.2.2] 37)).heap.size := by simp
          have hh5 : w5.heap[wr.heap.size]? = some (.cells #[.int .i64 x.1, .string x.2.1, .int .i64 x.2.2] 37 (0, 0)) := (hb5.block _ hz).trans (World.alloc_heap_new _ _)
          have y0 : w5.cell? ⟨wr.heap.size, 0, none⟩ = some (.int .i64 x.1) := by rw [Lib.cell_of_heap hh5]; rfl
          have y1 : w5.cell? ⟨wr.heap.size, 1, none⟩ = some (.string x.2.1) := by rw [Lib.cell_of_heap hh5]; rfl
          have y2 : w5.cell? ⟨wr.heap.size, 2, none⟩ = some (.int .i64 x.2.2) := by rw [Lib.cell_of_heap hh5]; rfl
          have hb6 : Below wr.heap.size wr w5 := Hal.out.trans (hb5.mono (by simp))
          have HV3 := Lib.hid (HV2.out w5 (Kd.C_below (Kd.C_below Hr1.out HBl.out) hb6))
          have Hb6 := Lib.hid hb6
          clear hb5 hb6 hh5 hz HV2
          go_wp2_with fail
          refine HV3.out.mono ?_
          rintro e w6 ⟨rfl, hb7⟩
          go_wp2
          go_roundg (ts.length - (i + 1))
          case measure => omega
          case rel => exact ⟨i + 1, by go_num, by omega, Nat.le_refl _, Lib.hid (HBl.out.trans ((Hb6.out.trans (hb7.mono Hb6.out.size)).mono HBl.out.size))⟩
        · have hltz : ¬ (i : Int) < (ts.length : Int) := by omega
          have HrW := Lib.hid (Kd.C_below Hr1.out HBl.out)
          have HBW := Lib.hid (Kd.C_below HB1.out HBl.out)
          go_wp2_with fail
          refine (HT.out _ HBW.out).mono ?_
          rintro e w7 ⟨v, rfl, hv, hb7⟩
          obtain ⟨E, ce, rfl, hce, hE⟩ := kd_cells hv
          have HE := Lib.hid hE
          have Hr7 := Lib.hid (Kd.C_below HrW.out hb7)
          have HB7 := Lib.hid (Kd.C_below HBW.out hb7)
          clear hv hE
          go_wp2_with fail
          refine (HJ1.out _ _ hce _ Hr7.out HE.out).mono ?_
          rintro e w8 ⟨rfl, hb8⟩
          have Hr8 := Lib.hid (Kd.C_below Hr7.out hb8)
          have HB8 := Lib.hid (Kd.C_below HB7.out hb8)
          go_wp2_with fail
          refine (HJ2.out _ Hr8.out HB8.out).mono ?_
          rintro e w9 ⟨rfl, hb9⟩
          go_wp2_with fail
          refine (HA.out _).mono ?_
          rintro e w10 ⟨rfl, hb10⟩
          go_wp2
          go_ret
          have q1 := Hb1.out.size
          have q2 := HBl.out.size
          have q3 := hb7.size
          have q4 := hb8.size
          have q5 := hb9.size
          exact ⟨rfl, (((((Hb1.out.trans (HBl.out.mono q1)).trans (hb7.mono (by omega))).trans (hb8.mono (by omega))).trans (hb9.mono (by omega))).trans (hb10.mono (by omega)))⟩
end Go.Proofs.YtmkfeanggmjhmaaGreat.Wq

/- A row of strings that comes in as an argument, read. -/
namespace Go.Proofs.YtmkfeanggmjhmaaGreat.Row
set_option linter.unusedSimpArgs false
set_option linter.unusedVariables false
open Go Go.RowKit Go.ChangeShapes Go.WideShapes Go.ChangeAt Go.Proofs.YtmkfeanggmjhmaaGreatW.PrintWords

theorem own : ownKnob Tryz.prog.godebug = none := by kernel_rfl
theorem laidOut : laidOutB Tryz.prog = true := by kernel_rfl

theorem strings_nil (w : World) : Kd.C Kd.string w none 0 [] := ⟨rfl, by decide, fun h => absurd h (by decide)⟩
theorem strings_row {w : World} {a : Addr} {len cap : Nat} {ss : List ByteArray} (hl : len ≤ cap) (hm : cap ≤ maxLen) (hz : ss.length = cap) (hc : ∀ i, i < ss.length → w.cell? (a.add i) = some (.string (ss.getD i ByteArray.empty))) :
    Kd.C Kd.string w (some a) len (ss.take len) := by
  refine ⟨by rw [List.length_take]; omega, by unfold maxLen at hm; omega, fun h0 => ⟨a, rfl, fun j p hj => ?_⟩⟩
  have hjl : j < (ss.take len).length := (List.getElem?_eq_some_iff.1 hj).1
  rw [List.length_take] at hjl
  have hp : ss.getD j ByteArray.empty = p := by
    rw [List.getElem?_take_of_lt (by omega)] at hj
    rw [List.getD_eq_getElem?_getD, hj]
    rfl
  refine ⟨[.string p], rfl, rfl, fun i u hu => ?_⟩
  have hi : i < 1 := (List.getElem?_eq_some_iff.1 hu).1
  obtain rfl : i = 0 := by omega
  simp only [List.getElem?_cons_zero, Option.some.injEq] at hu
  subst hu
  have e : Kd.string.sz = 1 := rfl
  rw [e, Nat.mul_one, Nat.add_zero, hc j (by omega), hp]

/-- an argument of type []string -/
theorem strings_arg {H : Type} {enc : TypeId × Value → H} {W : World} {held : Bool} {A : Option Addr} {len cap : Nat} {d : DataW H} {p : List MemPlace}
    (h : DataW.Trod enc Tryz.prog W 0 (fun _ => true) held 22 (.slice A len cap) d p) : ∃ l : List ByteArray, l.length = len ∧ len ≤ cap ∧ Kd.C Kd.string W A l.length l := by
  obtain ⟨fuel, hf⟩ := h
  rcases open_strings Tryz.underlying22 Tryz.underlying9 (by kernel_rfl) hf with ⟨hcs, _⟩ | ⟨a, l, c, ss, hcs, _, hl, hm, hz, _, hcell, _⟩
  · simp [Value.cells] at hcs
    obtain ⟨rfl, rfl, rfl⟩ := hcs
    exact ⟨[], rfl, Nat.le_refl _, strings_nil W⟩
  · simp [Value.cells] at hcs
    obtain ⟨rfl, rfl, rfl⟩ := hcs
    have hlen : (ss.take len).length = len := by rw [List.length_take]; simp at hz; omega
    refine ⟨ss.take len, hlen, hl, ?_⟩
    rw [hlen]
    exact strings_row hl hm (by simpa using hz) hcell
end Go.Proofs.YtmkfeanggmjhmaaGreat.Row
