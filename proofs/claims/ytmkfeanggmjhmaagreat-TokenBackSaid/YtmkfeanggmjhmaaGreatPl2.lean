/- The walk of the law TokenPlaces: it returns true. -/
import Derived.Test.YtmkfeanggmjhmaaGreatPl1
import Derived.Test.YtmkfeanggmjhmaaGreatRw
import Derived.Deep.LoopGhost
namespace Go.Proofs.YtmkfeanggmjhmaaGreat.Pl
open Go Go.RowKit Go.Shelf Go.Proofs.YtmkfeanggmjhmaaGreatW.PrintWords Go.Proofs.YtmkfeanggmjhmaaGreatW.PrintLast Go.Proofs.YtmkfeanggmjhmaaGreatW.PrintMore
open Go.Proofs.YtmkfeanggmjhmaaGreat.M Go.Proofs.YtmkfeanggmjhmaaGreat.K Go.Proofs.YtmkfeanggmjhmaaGreat.S Go.Proofs.YtmkfeanggmjhmaaGreat.Q Go.Proofs.YtmkfeanggmjhmaaGreat.Rp Go.Proofs.YtmkfeanggmjhmaaGreat.Wr Go.Proofs.YtmkfeanggmjhmaaGreat.Rw
set_option linter.unusedSimpArgs false
set_option linter.unusedVariables false

theorem few_sizes {most : Int} {l : List ByteArray} {s : ByteArray} (h : fewB most l s = true) : l.length ≤ 20 ∧ (s.size : Int) ≤ most ∧ ∀ x ∈ l, x.size ≤ 60 := by
  unfold fewB at h
  simp only [Bool.and_eq_true, decide_eq_true_eq, Bool.not_eq_true', List.any_eq_false, Bool.not_eq_true] at h
  refine ⟨h.1.1, h.1.2, fun x hx => ?_⟩
  have := h.2 x hx
  simp at this
  exact this
theorem all_cases {l : List ByteArray} {s : ByteArray} {xs : List Tok} {q : Nat} {e : Int} (hs : s.size ≤ 40000) (h : scanAll l s = (xs, q, e)) :
    q ≤ s.size ∧ (e = 0 → checkE l = 0 ∧ scanE (kwp l) s = (xs, none)) ∧ (e ≠ 0 → xs = []) := by
  unfold scanAll at h
  split at h
  · rename_i h1
    cases h
    exact ⟨Nat.zero_le _, fun h => absurd h h1, fun _ => rfl⟩
  · rename_i h1
    rw [if_neg (by omega)] at h
    obtain ⟨b1, b2, b3⟩ := scan_bounds (kwp l) s
    have h1' : checkE l = 0 := by simpa using h1
    cases hsc : scanE (kwp l) s with
    | mk ys o =>
      rw [hsc] at h b1 b2 b3
      cases o with
      | none => cases h; exact ⟨Nat.zero_le _, fun _ => ⟨h1', rfl⟩, fun h => absurd rfl h⟩
      | some r =>
        obtain ⟨p, c⟩ := r
        cases h
        obtain ⟨h2, h3⟩ := b3 _ _ rfl
        exact ⟨h2, fun h => (by rcases h3 with h' | h' | h' <;> rw [h'] at h <;> cases h), fun _ => rfl⟩
theorem spell_ge (k : Int) (t : ByteArray) : t.size ≤ (spell k t).size := by
  have e : t.data.toList.length = t.size := rfl
  unfold spell
  split
  · show t.size ≤ (Rp.opened ++ t.data.toList ++ Rp.closed).toArray.size
    rw [List.size_toArray, List.length_append, List.length_append]
    omega
  · split
    · show t.size ≤ (34 :: escL t.data.toList ++ [34]).toArray.size
      rw [List.size_toArray, List.length_append, List.length_cons, escL_len]
      omega
    · exact Nat.le_refl _
/-- tokens from place e on, whose first ones are gone: what the next round meets -/
theorem chain_at {p : List UInt8 → Bool} {s : ByteArray} (hs : s.size ≤ 40000) {i : Nat} {x : Tok} {r : List Tok} (h : Chain p s i (x :: r)) :
    i ≤ x.at_ ∧ x.at_ < s.size ∧ ∃ e, x.at_ < e ∧ e ≤ s.size ∧ writeE p x.kind x.text = (s.extract x.at_ e, 0) ∧ x.text.size ≤ s.size ∧ Chain p s e r := by
  obtain ⟨h1, h2, h3, e, h4, h5, h6⟩ := h
  have hlt := oneE_lt h2 h4
  refine ⟨h1, h2, e, hlt.1, h5, write_one hs h2 h3 h4, ?_, h6⟩
  have hsp := one_spell h2 h4
  have h7 := spell_ge x.kind x.text
  rw [hsp, cut_size s _ _ h5] at h7
  omega
theorem has_cut (s : ByteArray) (i e : Nat) (h1 : i ≤ e) (h2 : e ≤ s.size) : Lib.hasPrefix (s.extract i s.size).data.toList (s.extract i e).data.toList = true := by
  unfold Lib.hasPrefix
  rw [List.isPrefixOf_iff_prefix, ext_cat s i e s.size h1 h2]
  exact List.prefix_append _ _

set_option maxRecDepth 100000 in
set_option maxHeartbeats 4000000 in
theorem TokenPlaces_calls (A : Option Addr) (c : Nat) (l : List ByteArray) (hc : l.length ≤ c) (s : ByteArray) (w : World) (hr : Kd.C Kd.string w A l.length l) :
    Calls Tryz.prog 3 #[.slice A l.length c, .string s] w fun r w' => r = .returned (.bool true) ∧ Below w.heap.size w w' := by
  have HF := Lib.hid (fun w hr => Few_calls 800 A c l hc s w hr)
  have HA := Lib.hid awake_calls
  have Hr := Lib.hid hr
  clear hr
  cases hf : fewB 800 l s with
  | false =>
    rw [hf] at HF
    clear hf
    go_enter Tryz.func3, Tryz.ntmps3
    go_wp2_with fail
    refine (HF.out _ Hr.out).mono ?_
    rintro e w' ⟨rfl, rfl⟩
    go_wp2_with fail
    refine (HA.out _).mono ?_
    rintro e w2 ⟨rfl, hb⟩
    go_wp2
    go_ret
    exact ⟨rfl, hb⟩
  | true =>
    rw [hf] at HF
    obtain ⟨hl20, hs8, hx⟩ := few_sizes hf
    clear hf
    have hx' : ∀ x ∈ l, x.size ≤ 1000000000000 := fun x h => Nat.le_trans (hx x h) (by decide)
    have HS := Lib.hid (fun w hr => Scan_calls A c l hx' hc s w hr)
    unfold ScanAllEnd at HS
    cases h1 : scanAll l s with
    | mk xs r1 =>
    obtain ⟨q, e1⟩ := r1
    rw [h1] at HS
    simp only at HS
    obtain ⟨hq, h0, hne⟩ := all_cases (by omega) h1
    by_cases he : e1 = 0
    · subst he
      obtain ⟨hck, hsc⟩ := h0 rfl
      have hch := Pl.scan_chain hsc
      have hxl : xs.length ≤ s.size := by have := (scan_bounds (kwp l) s).1; rw [hsc] at this; exact this
      have HWR := Lib.hid (fun k t q ht (w : World) hr => Write_calls A c l hx' hc k t q ht w hr)
      have hwa : ∀ k t, writeAll l k t = writeE (kwp l) k t := fun k t => by unfold writeAll; rw [if_neg (by simpa using hck)]
      have Hwa := Lib.hid hwa
      have Hch := Lib.hid hch
      clear h1 h0 hne hx hx' hl20 hck hsc hwa hch
      go_enter Tryz.func3, Tryz.ntmps3
      go_wp2_with fail
      refine (HF.out _ Hr.out).mono ?_
      rintro e w' ⟨rfl, rfl⟩
      go_wp2_with fail
      refine (HS.out _ Hr.out).mono ?_
      rintro e3 w1 ⟨v, rfl, ho, hb1⟩
      have Hr1 := Lib.hid (Kd.C_below Hr.out hb1)
      rcases row_cases ho with ⟨rfl, rfl⟩ | ⟨g, cap, tail, rfl, hg, hh, hcp, hcm, ht⟩
      · clear ho
        go_wp2
        go_loopg [40] 0 (fun gg v wr => v = .int .i64 0 ∧ wr = w1)
        case atStart => exact ⟨rfl, rfl⟩
        case round =>
          obtain ⟨rfl, rfl⟩ := hrel
          go_wp2_with fail
          refine (HA.out _).mono ?_
          rintro e w2 ⟨rfl, hb⟩
          go_wp2
          go_ret
          exact ⟨rfl, hb1.trans (hb.mono (by have := hb1.size; omega))⟩
      · clear ho
        have Hh := Lib.hid hh
        have Hb1 := Lib.hid hb1
        clear hh hb1
        go_wp2
        go_loopg [8, 40] xs.length (fun gg v8 v40 wr => ∃ i en : Nat, v8 = .int .i64 en ∧ v40 = .int .i64 i ∧ i ≤ xs.length ∧ xs.length - i ≤ gg ∧ en ≤ s.size ∧ Hid (Chain (kwp l) s en (xs.drop i)) ∧ Hid (Below w1.heap.size w1 wr))
        case atStart => exact ⟨0, 0, rfl, by go_num, Nat.zero_le _, Nat.le_refl _, Nat.zero_le _, Hch, Lib.hid (Below.refl _ _)⟩
        case round =>
          obtain ⟨i, en, rfl, rfl, hi, hgg, hen, HC, HB⟩ := hrel
          have Hr2 := Lib.hid (Kd.C_below Hr1.out HB.out)
          by_cases hlt : i < xs.length
          · have hltz : (i : Int) < (xs.length : Int) := by omega
            have hcx := HC.out
            rw [List.drop_eq_getElem_cons hlt] at hcx
            have hfl : ∀ j, j < 3 → wr.cell? ⟨g, i * 3 + j, none⟩ = (tokCells (xs[i]'hlt))[j]? := fun j hj => by
              rw [Lib.cell_of_heap ((HB.out.block g (lt_heap Hh.out)).trans Hh.out), List.getElem?_toArray, List.getElem?_append_left (by rw [flat_len]; omega)]
              exact flat_at xs i _ (List.getElem?_eq_getElem hlt) j hj
            have y0 : wr.cell? ⟨g, i * 3, none⟩ = some (.int .i64 (xs[i]'hlt).kind) := hfl 0 (by decide)
            have y1 : wr.cell? ⟨g, i * 3 + 1, none⟩ = some (.string (xs[i]'hlt).text) := hfl 1 (by decide)
            have y2 : wr.cell? ⟨g, i * 3 + 2, none⟩ = some (.int .i64 (xs[i]'hlt).at_) := hfl 2 (by decide)
            clear hfl
            generalize xs[i]'hlt = x at hcx y0 y1 y2
            obtain ⟨k1, k2, e, k3, k4, k5, k6, k7⟩ := chain_at (by omega) hcx
            have hwx := Hwa.out x.kind x.text
            rw [k5] at hwx
            have HX := Lib.hid (fun (w : World) hr => HWR.out x.kind x.text x.at_ (by omega) w hr)
            rw [hwx] at HX
            have hes : (s.extract x.at_ e).size = e - x.at_ := cut_size s _ _ k4
            have hpf := Tryz.strings_HasPrefix (s.extract x.at_ s.size) (s.extract x.at_ e)
            rw [has_cut s x.at_ e (by omega) k4] at hpf
            have HPF := Lib.hid hpf
            have K7 := Lib.hid k7
            clear hcx k5 hwx hpf k7
            generalize s.extract x.at_ e = S at HX hes HPF
            have hzal : (wr.alloc (.cells #[.int .i64 x.kind, .string x.text, .int .i64 x.at_] 30)).heap.size = wr.heap.size + 1 := by simp
            have hal : Below wr.heap.size wr (wr.alloc (.cells #[.int .i64 x.kind, .string x.text, .int .i64 x.at_] 30)) := (Below.refl _ wr).alloc (Nat.le_refl _) _
            have Hr3 := Lib.hid (Kd.C_below Hr2.out hal)
            have u1 : ¬ (x.at_ : Int) < (en : Int) := by omega
            have u2 : ¬ (s.size : Int) < (x.at_ : Int) + (S.size : Int) := by omega
            have u3 : (x.at_ : Int) ≤ (s.size : Int) := by omega
            go_wp2_with fail
            refine (HX.out _ Hr3.out).mono ?_
            rintro e5 w5 ⟨rfl, hb5⟩
            have e0 : w5.heap[wr.heap.size]? = some (.cells #[.int .i64 x.kind, .string x.text, .int .i64 x.at_] 30 (0, 0)) := (hb5.block _ (by rw [hzal]; omega)).trans (World.alloc_heap_new wr _)
            have f2 : w5.cell? ⟨wr.heap.size, 2, none⟩ = some (.int .i64 x.at_) := by rw [Lib.cell_of_heap e0]; rfl
            have hb6 : Below wr.heap.size wr w5 := hal.trans (hb5.mono (by rw [hzal]; omega))
            have HB6 := Lib.hid hb6
            clear hal hb5 e0 hb6 hzal y0 y1 y2
            go_wp2_with (go_at_call 10; refine (HPF.out _).mono ?_; rintro e7 w7 ⟨rfl, rfl⟩)
            go_roundg (xs.length - (i + 1))
            case measure => omega
            case rel =>
              have hee : (x.at_ : Int) + ((e - x.at_ : Nat) : Int) = ((e : Nat) : Int) := by omega
              refine ⟨i + 1, e, by rw [hee], ?_, by omega, Nat.le_refl _, k4, K7, Lib.hid (HB.out.trans (HB6.out.mono HB.out.size))⟩
              go_num
          · have hltz : ¬ (i : Int) < (xs.length : Int) := by omega
            go_wp2_with fail
            refine (HA.out _).mono ?_
            rintro e w2 ⟨rfl, hb⟩
            go_wp2
            go_ret
            have z1 := Hb1.out.size
            have z2 := HB.out.size
            exact ⟨rfl, (Hb1.out.trans (HB.out.mono (by omega))).trans (hb.mono (by omega))⟩
    · have g1 : (e1 != 0) = true := by simpa using he
      obtain rfl := hne he
      have hqz : (q : Int) ≤ (s.size : Int) := by omega
      have hqp : (0 : Int) ≤ (q : Int) := by omega
      clear h1 h0 hne hx hx' hl20 he
      go_enter Tryz.func3, Tryz.ntmps3
      go_wp2_with fail
      refine (HF.out _ Hr.out).mono ?_
      rintro e w' ⟨rfl, rfl⟩
      go_wp2_with fail
      refine (HS.out _ Hr.out).mono ?_
      rintro e3 w1 ⟨v, rfl, ho, hb1⟩
      go_wp2_with fail
      refine (HA.out _).mono ?_
      rintro e w2 ⟨rfl, hb⟩
      go_wp2
      go_ret
      exact ⟨rfl, hb1.trans (hb.mono (by have := hb1.size; omega))⟩
end Go.Proofs.YtmkfeanggmjhmaaGreat.Pl
