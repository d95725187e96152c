/- Walks: how a token is written. -/
import Derived.Test.YtmkfeanggmjhmaaGreatRp
import Derived.Test.YtmkfeanggmjhmaaGreatSb
import Derived.Test.YtmkfeanggmjhmaaGreatWEqStruct
import Derived.Test.YtmkfeanggmjhmaaGreatQa
namespace Go.Proofs.YtmkfeanggmjhmaaGreat.Wr
open Go Go.RowKit Go.Shelf Go.Proofs.YtmkfeanggmjhmaaGreatW.PrintWords Go.Proofs.YtmkfeanggmjhmaaGreatW.PrintLast Go.Proofs.YtmkfeanggmjhmaaGreatW.PrintMore
open Go.Proofs.YtmkfeanggmjhmaaGreat.M Go.Proofs.YtmkfeanggmjhmaaGreat.K Go.Proofs.YtmkfeanggmjhmaaGreat.S Go.Proofs.YtmkfeanggmjhmaaGreat.Rp
set_option linter.unusedSimpArgs false
set_option linter.unusedVariables false

def tokB (x : Tok) (k : Int) (t : ByteArray) : Bool := x.kind == k && (x.text.data.toList == t.data.toList && x.at_ == 0)
/-- what writing a token returns -/
def writeE (p : List UInt8 → Bool) (k : Int) (t : ByteArray) : ByteArray × Int :=
  if 40000 < (spell k t).size then (⟨#[]⟩, 2) else match scanE p (spell k t) with
    | ([x], none) => if tokB x k t then (spell k t, 0) else (⟨#[]⟩, 2)
    | _ => (⟨#[]⟩, 2)
theorem tokB_eq (x : Tok) (k : Int) (t : ByteArray) : tokB x k t = (x.kind == k && (x.text.toList == t.toList && ((x.at_ : Int) == 0))) := by
  unfold tokB
  rw [Lib.toList_data, Lib.toList_data]
  have e : (x.at_ == 0) = ((x.at_ : Int) == 0) := by
    rw [Bool.eq_iff_iff, beq_iff_eq, beq_iff_eq]
    omega
  rw [e]
theorem spell_size (k : Int) (t : ByteArray) : (spell k t).size ≤ 2 * t.size + 15 := by
  have h1 := escL_len t.data.toList
  have h2 := cnt_le t.data.toList
  have h3 : t.data.toList.length = t.size := rfl
  unfold spell
  split
  · simp only [ByteArray.size, List.size_toArray, List.length_append] at *
    simp only [Rp.opened, Rp.closed, List.length_cons, List.length_nil]
    omega
  · split
    · simp only [ByteArray.size, List.size_toArray, List.length_append, List.length_cons, List.length_nil] at *
      omega
    · omega
theorem eqT (d : Nat) (w : World) (x0 y0 : Int) (x1 y1 : ByteArray) (x2 y2 : Int) :
    (Op.equalIn (d + 2) 30 (.agg #[.int .i64 x0, .string x1, .int .i64 x2]) (.agg #[.int .i64 y0, .string y1, .int .i64 y2])).run Tryz.prog w = .ok (x0 == y0 && (x1.toList == y1.toList && x2 == y2)) w := by
  refine eqA_of Tryz.underlying30 (by kernel_rfl) ?_
  refine eqf_cons (by rfl) (by go_simp; rfl) (by go_simp; rfl) (by go_simp) ?_
  refine eqf_cons (by rfl) (by go_simp; rfl) (by go_simp; rfl) (by go_simp) ?_
  exact eqf_last (by rfl) (by go_simp; rfl) (by go_simp; rfl) (by go_simp)
theorem neqT (w : World) (x0 y0 : Int) (x1 y1 : ByteArray) (x2 y2 : Int) :
    (binOp .neq 30 (.agg #[.int .i64 x0, .string x1, .int .i64 x2]) (.agg #[.int .i64 y0, .string y1, .int .i64 y2])).run Tryz.prog w = .ok (.bool (!(x0 == y0 && (x1.toList == y1.toList && x2 == y2)))) w := by
  have h : (Op.equal 30 (.agg #[.int .i64 x0, .string x1, .int .i64 x2]) (.agg #[.int .i64 y0, .string y1, .int .i64 y2])).run Tryz.prog w = _ := eqT 9998 w x0 y0 x1 y1 x2 y2
  simp only [binOp]
  simp [h]

set_option maxRecDepth 100000 in
set_option maxHeartbeats 4000000 in
theorem write_calls (bm n : Nat) (p : List UInt8 → Bool) (k : Int) (t : ByteArray) (q : Int) (w : World) (hk : KwSet w bm n p) (ht : t.size ≤ 1000000) :
    Calls Tryz.prog 22 #[.map (some bm), .agg #[.int .i64 k, .string t, .int .i64 q]] w fun r w' => r = .returned (.tuple #[.string (writeE p k t).1, .int .i64 (writeE p k t).2]) ∧ Below w.heap.size w w' := by
  have HSP := Lib.hid (fun w => spelled_calls k t q w ht)
  have HSC := Lib.hid (fun (s : ByteArray) (W : World) (hk : KwSet W bm n p) (hs : s.size ≤ 1000000000) => scan_calls bm n p s W hk hs)
  have HK := Lib.hid hk
  clear hk
  generalize hE : writeE p k t = E
  unfold writeE at hE
  have hsz : (spell k t).size ≤ 1000000000 := by have := spell_size k t; omega
  have hbd := Q.scan_bounds p (spell k t)
  generalize spell k t = s at HSP hE hsz hbd
  by_cases hbig : 40000 < s.size
  · have g : (40000 : Int) < (s.size : Int) := by omega
    rw [if_pos hbig] at hE
    subst hE
    clear hbig hsz hbd
    go_enter Tryz.func22, Tryz.ntmps22
    go_wp2_with fail
    refine (HSP.out _).mono ?_
    rintro e w1 ⟨rfl, hb1⟩
    go_wp2
    go_ret2
    exact ⟨rfl, ((Below.refl _ w).alloc (Nat.le_refl _) _).trans (hb1.mono (by simp))⟩
  · have g : ¬ (40000 : Int) < (s.size : Int) := by omega
    rw [if_neg hbig] at hE
    have HEE := Lib.hid hE
    have HBD := Lib.hid hbd
    clear hbig hE hbd
    go_enter Tryz.func22, Tryz.ntmps22
    go_wp2_with fail
    refine (HSP.out _).mono ?_
    rintro e w1 ⟨rfl, hb1⟩
    have hbm : bm < w.heap.size := HK.out.lt
    have hal : Below w.heap.size w (w.alloc (.cells #[.int .i64 k, .string t, .int .i64 q] 30)) := (Below.refl _ w).alloc (Nat.le_refl _) _
    have hb01 : Below w.heap.size w w1 := hal.trans (hb1.mono (by simp))
    have HK1 := Lib.hid (HK.out.same (hb01.block bm hbm))
    have hzal : (w.alloc (.cells #[.int .i64 k, .string t, .int .i64 q] 30)).heap.size = w.heap.size + 1 := by simp
    have e0 : w1.heap[w.heap.size]? = some (.cells #[.int .i64 k, .string t, .int .i64 q] 30 (0, 0)) := (hb1.block _ (by rw [hzal]; omega)).trans (World.alloc_heap_new w _)
    have E0 := Lib.hid e0
    have Hb01 := Lib.hid hb01
    clear hal hb1 hzal e0 hb01
    go_wp2_with fail
    refine (HSC.out s _ HK1.out hsz).mono ?_
    rintro e w2 ⟨v, xs, q', c, rfl, ho, hsc, hb2⟩
    have hlt := (Array.getElem?_eq_some_iff.1 E0.out).1
    have e2 := (hb2.block _ hlt).trans E0.out
    have f0 : w2.cell? ⟨w.heap.size, 0, none⟩ = some (.int .i64 k) := by rw [Lib.cell_of_heap e2]; rfl
    have f1 : w2.cell? ⟨w.heap.size, 1, none⟩ = some (.string t) := by rw [Lib.cell_of_heap e2]; rfl
    have hb02 : Below w.heap.size w w2 := Hb01.out.trans (hb2.mono Hb01.out.size)
    have Hb02 := Lib.hid hb02
    clear hb02 hlt e2 hb2 HK1 E0 Hb01 hbm
    rcases hsc with ⟨hsc, rfl, rfl⟩ | ⟨pre, q2, hsc, rfl, rfl⟩
    · match xs, hsc, ho with
      | [], hsc, ho =>
        obtain rfl : (⟨#[]⟩, 2) = E := by rw [← HEE.out, hsc]
        obtain ⟨A, cap, rfl⟩ := S.own_slice ho
        clear ho hsc
        go_wp2
        go_region
        all_goals
          go_wp2
          go_ret2
          exact ⟨rfl, below_drewN Hb02.out 1⟩
      | [x], hsc, ho =>
        obtain ⟨_, ho⟩ := ho
        rcases ho with ⟨_, h0⟩ | ⟨g, cap, cur, rfl, hg, hh, hcc, hm, hs, ht'⟩
        · cases h0
        · have hcur : ∀ j, j < 3 → cur[j]? = (tokCells x)[j]? := fun j hj => by
            have e : cur.toList.take 3 = tokCells x := by simpa using ht'
            rw [← e, List.getElem?_take, if_pos hj, Array.getElem?_toList]
          have y0 : w2.cell? ⟨g, 0, none⟩ = some (.int .i64 x.kind) := by rw [Lib.cell_of_heap hh]; exact hcur 0 (by decide)
          have y1 : w2.cell? ⟨g, 1, none⟩ = some (.string x.text) := by rw [Lib.cell_of_heap hh]; exact hcur 1 (by decide)
          have y2 : w2.cell? ⟨g, 2, none⟩ = some (.int .i64 x.at_) := by rw [Lib.cell_of_heap hh]; exact hcur 2 (by decide)
          have hnq := neqT
          have hcap : 1 ≤ cap := hcc
          clear hcur ht' hs hh hg
          cases hB : tokB x k t with
          | true =>
            have hE2 : (s, 0) = E := by rw [← HEE.out, hsc]; simp only; rw [hB]; rfl
            subst hE2
            rw [tokB_eq] at hB
            clear hsc
            go_wp2
            go_region
            all_goals
              go_wp2
              go_ret2
              exact ⟨rfl, below_drewN Hb02.out 1⟩
          | false =>
            have hE2 : (⟨#[]⟩, 2) = E := by rw [← HEE.out, hsc]; simp only; rw [hB]; rfl
            subst hE2
            rw [tokB_eq] at hB
            clear hsc
            go_wp2
            go_region
            all_goals
              go_wp2
              go_ret2
              exact ⟨rfl, below_drewN Hb02.out 1⟩
      | x :: y :: r, hsc, ho =>
        obtain rfl : (⟨#[]⟩, 2) = E := by rw [← HEE.out, hsc]
        obtain ⟨A, cap, rfl⟩ := S.own_slice ho
        have g1 : ((r.length : Int) + 1 + 1 != 1) = true := by simp; omega
        have g2 : (((x :: y :: r).length : Int) != 1) = true := by simp; omega
        clear ho hsc
        go_wp2
        go_region
        all_goals
          go_wp2
          go_ret2
          exact ⟨rfl, below_drewN Hb02.out 1⟩
    · have hc := (HBD.out.2.2 q2 c (by rw [hsc])).2
      have gc : (c != 0) = true := by rcases hc with rfl | rfl | rfl <;> rfl
      obtain rfl : (⟨#[]⟩, 2) = E := by rw [← HEE.out, hsc]; cases pre with
        | nil => rfl
        | cons a l => cases l <;> rfl
      obtain ⟨A, cap, rfl⟩ := S.own_slice ho
      clear ho hsc hc
      go_wp2
      go_region
      all_goals
        go_wp2
        go_ret2
        exact ⟨rfl, below_drewN Hb02.out 1⟩
end Go.Proofs.YtmkfeanggmjhmaaGreat.Wr
namespace Go.Proofs.YtmkfeanggmjhmaaGreat.Wr
open Go Go.RowKit Go.Shelf Go.Proofs.YtmkfeanggmjhmaaGreatW.PrintWords Go.Proofs.YtmkfeanggmjhmaaGreatW.PrintLast Go.Proofs.YtmkfeanggmjhmaaGreatW.PrintMore
open Go.Proofs.YtmkfeanggmjhmaaGreat.M Go.Proofs.YtmkfeanggmjhmaaGreat.K Go.Proofs.YtmkfeanggmjhmaaGreat.S Go.Proofs.YtmkfeanggmjhmaaGreat.Rp
set_option linter.unusedSimpArgs false
set_option linter.unusedVariables false
/-- what Write returns -/
def writeAll (l : List ByteArray) (k : Int) (t : ByteArray) : ByteArray × Int := if checkE l ≠ 0 then (⟨#[]⟩, checkE l) else writeE (kwp l) k t
set_option maxRecDepth 100000 in
set_option maxHeartbeats 2000000 in
theorem Write_calls (A : Option Addr) (c : Nat) (l : List ByteArray) (hl : ∀ x ∈ l, x.size ≤ 1000000000000) (hc : l.length ≤ c) (k : Int) (t : ByteArray) (q : Int) (ht : t.size ≤ 1000000) (w : World) (hr : Kd.C Kd.string w A l.length l) :
    Calls Tryz.prog 9 #[.slice A l.length c, .agg #[.int .i64 k, .string t, .int .i64 q]] w fun r w' => r = .returned (.tuple #[.string (writeAll l k t).1, .int .i64 (writeAll l k t).2]) ∧ Below w.heap.size w w' := by
  generalize hR : writeAll l k t = R
  unfold writeAll at hR
  have hal : ∀ {W : World} {o : Obj}, Below W.heap.size W (W.alloc o) := fun {W o} => (Below.refl _ W).alloc (Nat.le_refl _) _
  have HW := Lib.hid (fun (W : World) hr => words_calls A c l hl hc W hr)
  have Hr := Lib.hid (Kd.C_below hr (hal (o := .cells #[.int .i64 k, .string t, .int .i64 q] 30)))
  clear hr hl hc
  unfold WordsEnd at HW
  generalize hE : checkE l = E at HW hR
  clear hE
  by_cases hE0 : E = 0
  · subst hE0
    rw [if_neg (by decide)] at hR
    have HWR := Lib.hid (fun bm n (w : World) hk => write_calls bm n (kwp l) k t q w hk ht)
    rw [hR] at HWR
    clear hR
    go_enter Tryz.func9, Tryz.ntmps9
    go_wp2_with fail
    refine (HW.out _ Hr.out).mono ?_
    rintro e w1 ⟨rfl, hk, hb1⟩
    have HK := Lib.hid (hk trivial)
    have hz1 := hb1.size
    have hzal : (w.alloc (.cells #[.int .i64 k, .string t, .int .i64 q] 30)).heap.size = w.heap.size + 1 := by simp
    have e0 : w1.heap[w.heap.size]? = some (.cells #[.int .i64 k, .string t, .int .i64 q] 30 (0, 0)) := (hb1.block _ (by rw [hzal]; omega)).trans (World.alloc_heap_new w _)
    have f0 : w1.cell? ⟨w.heap.size, 0, none⟩ = some (.int .i64 k) := by rw [Lib.cell_of_heap e0]; rfl
    have f1 : w1.cell? ⟨w.heap.size, 1, none⟩ = some (.string t) := by rw [Lib.cell_of_heap e0]; rfl
    have f2 : w1.cell? ⟨w.heap.size, 2, none⟩ = some (.int .i64 q) := by rw [Lib.cell_of_heap e0]; rfl
    have hb01 : Below w.heap.size w w1 := hal.trans (hb1.mono (by simp))
    have Hb01 := Lib.hid hb01
    clear hk hb1 e0 hb01
    rw [hzal] at hz1 HK
    simp only [if_true]
    go_wp2_with (go_at_call 22; refine (HWR.out _ _ _ HK.out).mono ?_; rintro e w2 ⟨rfl, hb2⟩)
    go_ret2
    exact ⟨rfl, Hb01.out.trans (hb2.mono (by omega))⟩
  · rw [if_pos hE0] at hR
    subst hR
    have g : (E == 0) = false := by simpa using hE0
    have g' : (E != 0) = true := by simpa using hE0
    have HE0 := Lib.hid hE0
    clear hE0
    go_enter Tryz.func9, Tryz.ntmps9
    go_wp2_with fail
    refine (HW.out _ Hr.out).mono ?_
    rintro e w1 ⟨rfl, _, hb1⟩
    rw [if_neg HE0.out]
    have hb01 : Below w.heap.size w w1 := hal.trans (hb1.mono (by simp))
    clear hb1
    go_wp2
    go_ret2
    exact ⟨rfl, hb01⟩
end Go.Proofs.YtmkfeanggmjhmaaGreat.Wr
