/- The walk of the law TokenBack: it returns true. -/
import Derived.Test.YtmkfeanggmjhmaaGreatJ4
namespace Go.Proofs.YtmkfeanggmjhmaaGreat.J
open Go Go.RowKit Go.Shelf Go.Proofs.YtmkfeanggmjhmaaGreatW.PrintWords Go.Proofs.YtmkfeanggmjhmaaGreatW.PrintLast Go.Proofs.YtmkfeanggmjhmaaGreatW.PrintMore
open Go.Proofs.YtmkfeanggmjhmaaGreat.M Go.Proofs.YtmkfeanggmjhmaaGreat.K Go.Proofs.YtmkfeanggmjhmaaGreat.S Go.Proofs.YtmkfeanggmjhmaaGreat.Wr
set_option linter.unusedSimpArgs false
set_option linter.unusedVariables false

theorem chain_small {p : List UInt8 → Bool} {s : ByteArray} (hs : s.size ≤ 40000) : ∀ (xs : List Tok) (i : Nat), Pl.Chain p s i xs → ∀ x ∈ xs.map tk, x.2.1.size ≤ 1000000
  | [], _, _, x, h => by simp at h
  | y :: r, i, h, x, hx => by
    obtain ⟨k1, k2, e, k3, k4, k5, k6, k7⟩ := Pl.chain_at hs h
    rw [List.map_cons] at hx
    rcases List.mem_cons.1 hx with rfl | hx
    · show y.text.size ≤ 1000000
      omega
    · exact chain_small hs r e k7 x hx

set_option maxRecDepth 100000 in
set_option maxHeartbeats 4000000 in
theorem TokenBack_calls (A : Option Addr) (c : Nat) (l : List ByteArray) (hc : l.length ≤ c) (s : ByteArray) (w : World) (hr : Kd.C Kd.string w A l.length l) :
    Calls Tryz.prog 5 #[.slice A l.length c, .string s] w fun r w' => r = .returned (.bool true) ∧ Below w.heap.size w w' := by
  have HF := Lib.hid (fun w hr => Few_calls 400 A c l hc s w hr)
  have HA := Lib.hid awake_calls
  have Hr := Lib.hid hr
  clear hr
  cases hf : fewB 400 l s with
  | false =>
    rw [hf] at HF
    clear hf
    go_enter Tryz.func5, Tryz.ntmps5
    go_wp2_with fail
    refine (HF.out _ Hr.out).mono ?_
    rintro e w' ⟨rfl, rfl⟩
    go_wp2_with fail
    refine (HA.out _).mono ?_
    rintro e w2 ⟨rfl, hb⟩
    go_wp2
    go_ret
    exact ⟨rfl, hb⟩
  | true =>
    rw [hf] at HF
    obtain ⟨hl20, hs4, hx⟩ := Pl.few_sizes hf
    clear hf
    have hx' : ∀ x ∈ l, x.size ≤ 1000000000000 := fun x h => Nat.le_trans (hx x h) (by decide)
    have HS := Lib.hid (fun w hr => Scan_calls A c l hx' hc s w hr)
    unfold ScanAllEnd at HS
    cases h1 : scanAll l s with
    | mk xs r1 =>
    obtain ⟨q, e1⟩ := r1
    rw [h1] at HS
    simp only at HS
    obtain ⟨hq, h0, hne⟩ := Pl.all_cases (by omega) h1
    by_cases he : e1 = 0
    · subst he
      obtain ⟨hck, hsc⟩ := h0 rfl
      have hch := Pl.scan_chain hsc
      have hsm := chain_small (by omega) xs 0 hch
      have hgd := (chain_good (by omega) xs 0 (Nat.zero_le _) hch).1
      have hxl : xs.length ≤ s.size := by have := (Q.scan_bounds (kwp l) s).1; rw [hsc] at this; exact this
      obtain ⟨o, zs, j1, j2, j3, j4⟩ := join_back (by omega) hsc
      have hlm : (xs.map tk).length = xs.length := List.length_map _
      have hss := sumS_le (kwp l) (xs.map tk)
      have hsum := (chain_good (p := kwp l) (by omega) xs 0 (Nat.zero_le _) hch).2
      have hja : joinAll l (xs.map tk) = (o, 0) := by unfold joinAll; rw [if_neg (by simpa using hck)]; exact j1
      have hos : o.size ≤ 40000 := by omega
      have hsa : scanAll l o = (zs, 0, 0) := by
        unfold scanAll
        rw [if_neg (by simpa using hck), if_neg (by omega), j2]
      have HS2 := Lib.hid (fun w hr => Scan_calls A c l hx' hc o w hr)
      unfold ScanAllEnd at HS2
      rw [hsa] at HS2
      simp only at HS2
      have hzl : zs.length ≤ o.size := by have := (Q.scan_bounds (kwp l) o).1; rw [j2] at this; exact this
      have hzm : (zs.map tk).length = zs.length := List.length_map _
      have HJ := Lib.hid (fun B d hd (w : World) hr hB => Join_calls A c l hx' hc B d (xs.map tk) hd hsm (by omega) w hr hB)
      rw [hja] at HJ
      obtain ⟨N, hN⟩ : ∃ N, N = (xs.map tk).length - 1 + sumS (kwp l) (xs.map tk) := ⟨_, rfl⟩
      have HSP := Lib.hid (fun B d hd (w : World) hr hB => spaces_calls A c l hx' hc B d (xs.map tk) hd hsm (by omega) w hr hB hck (fun x hx => (hgd x hx).1) N hN)
      have HAL := Lib.hid (fun A c B d w hA hB ha hb => alike_calls A c (xs.map tk) B d (zs.map tk) w hA hB ha hb (by omega) (by omega))
      rw [j3] at HAL
      have gN : ¬ (N : Int) < (o.size : Int) := by omega
      rw [hlm] at HJ HSP HAL
      rw [hzm] at HAL
      clear h1 h0 hne hx hx' hl20 hck hsc hch hsm hgd j1 j2 j3 j4 hss hsum hja hsa hN hq
      go_enter Tryz.func5, Tryz.ntmps5
      go_wp2_with fail
      refine (HF.out _ Hr.out).mono ?_
      rintro e w' ⟨rfl, rfl⟩
      go_wp2_with fail
      refine (HS.out _ Hr.out).mono ?_
      rintro e3 w1 ⟨v, rfl, ho, hb1⟩
      unfold TokRow at ho
      rw [tk_flat, ← hlm] at ho
      obtain ⟨A1, c1, rfl, hc1, hx1⟩ := own_cells ho
      rw [hlm] at hc1
      rw [hlm]
      have HX1 := Lib.hid hx1
      have Hb1 := Lib.hid hb1
      have Hr1 := Lib.hid (Kd.C_below Hr.out hb1)
      clear ho hx1 hb1
      go_wp2_with fail
      refine (HJ.out A1 c1 hc1 _ Hr1.out HX1.out).mono ?_
      rintro e4 w2 ⟨rfl, hb2⟩
      have HX2 := Lib.hid (HX1.out.below hb2)
      have Hr2 := Lib.hid (Kd.C_below Hr1.out hb2)
      have Hb2 := Lib.hid hb2
      clear hb2
      go_wp2_with fail
      refine (HSP.out A1 c1 hc1 _ Hr2.out HX2.out).mono ?_
      rintro e5 w3 ⟨rfl, hb3⟩
      have HX3 := Lib.hid (HX2.out.below hb3)
      have Hr3 := Lib.hid (Kd.C_below Hr2.out hb3)
      have Hb3 := Lib.hid hb3
      clear hb3
      go_wp2_with fail
      refine (HS2.out _ Hr3.out).mono ?_
      rintro e6 w4 ⟨v4, rfl, ho4, hb4⟩
      unfold TokRow at ho4
      rw [tk_flat, ← hzm] at ho4
      obtain ⟨A4, c4, rfl, hc4, hx4⟩ := own_cells ho4
      rw [hzm] at hc4
      rw [hzm]
      have HX4 := Lib.hid hx4
      have HX5 := Lib.hid (HX3.out.below hb4)
      have Hb4 := Lib.hid hb4
      clear ho4 hx4 hb4
      go_wp2_with fail
      refine (HAL.out A1 c1 A4 c4 _ HX5.out HX4.out hc1 hc4).mono ?_
      rintro e7 w5 ⟨rfl, hb5⟩
      go_wp2_with fail
      refine (HA.out _).mono ?_
      rintro e8 w6 ⟨rfl, hb6⟩
      go_wp2
      go_ret
      have z1 := Hb1.out.size
      have z2 := Hb2.out.size
      have z3 := Hb3.out.size
      have z4 := Hb4.out.size
      have z5 := hb5.size
      exact ⟨rfl, ((((Hb1.out.trans (Hb2.out.mono (by omega))).trans (Hb3.out.mono (by omega))).trans (Hb4.out.mono (by omega))).trans (hb5.mono (by omega))).trans (hb6.mono (by omega))⟩
    · have g1 : (e1 != 0) = true := by simpa using he
      obtain rfl := hne he
      clear h1 h0 hne hx hx' hl20 he
      go_enter Tryz.func5, Tryz.ntmps5
      go_wp2_with fail
      refine (HF.out _ Hr.out).mono ?_
      rintro e w' ⟨rfl, rfl⟩
      go_wp2_with fail
      refine (HS.out _ Hr.out).mono ?_
      rintro e3 w1 ⟨v, rfl, ho, hb1⟩
      obtain ⟨A1, c1, rfl⟩ := S.own_slice ho
      go_wp2_with fail
      refine (HA.out _).mono ?_
      rintro e w2 ⟨rfl, hb⟩
      go_wp2
      go_ret
      exact ⟨rfl, hb1.trans (hb.mono (by have := hb1.size; omega))⟩
end Go.Proofs.YtmkfeanggmjhmaaGreat.J
