/- A copy of tokens; Scan of two texts with a line feed between them. -/
import Derived.Test.YtmkfeanggmjhmaaY1
import Derived.Test.YtmkfeanggmjhmaaQ3
import Derived.Laws.Cover3
namespace Go.Proofs.Ytmkfeanggmjhmaa.Y
open Go Go.RowKit Go.Shelf Go.Proofs.YtmkfeanggmjhmaaW.PrintWords Go.Proofs.YtmkfeanggmjhmaaW.PrintLast Go.Proofs.YtmkfeanggmjhmaaW.PrintMore
open Go.Proofs.Ytmkfeanggmjhmaa.M Go.Proofs.Ytmkfeanggmjhmaa.K Go.Proofs.Ytmkfeanggmjhmaa.E Go.Proofs.Ytmkfeanggmjhmaa.S Go.Proofs.Ytmkfeanggmjhmaa.PTokenParts Go.Proofs.Ytmkfeanggmjhmaa.Q
set_option linter.unusedSimpArgs false
set_option linter.unusedVariables false

theorem all_bounds {l : List ByteArray} {s : ByteArray} {xs : List Tok} {q : Nat} {e : Int} (hs : s.size ≤ 40000) (h : scanAll l s = (xs, q, e)) : xs.length ≤ s.size ∧ (∀ t ∈ xs, t.at_ < s.size) ∧ q ≤ s.size ∧ (e = 0 → checkE l = 0 ∧ q = 0 ∧ scanE (kwp l) s = (xs, none)) ∧ (e ≠ 0 → xs = []) := by
  unfold scanAll at h
  split at h
  · rename_i h1
    cases h
    exact ⟨Nat.zero_le _, fun t ht => by simp at ht, Nat.zero_le _, fun h => absurd h h1, fun _ => rfl⟩
  · rename_i h1
    rw [if_neg (by omega)] at h
    obtain ⟨b1, b2, b3⟩ := scan_bounds (kwp l) s
    have h1' : checkE l = 0 := by simpa using h1
    cases hsc : scanE (kwp l) s with
    | mk ys o =>
      rw [hsc] at h b1 b2 b3
      cases o with
      | none => cases h; exact ⟨b1, b2, Nat.zero_le _, fun _ => ⟨h1', rfl, rfl⟩, fun h => absurd rfl h⟩
      | some r =>
        obtain ⟨p, c⟩ := r
        cases h
        obtain ⟨h2, h3⟩ := b3 _ _ rfl
        exact ⟨Nat.zero_le _, fun t ht => by simp at ht, h2, fun h => (by rcases h3 with h' | h' | h' <;> rw [h'] at h <;> cases h), fun _ => rfl⟩
theorem all_parts {l : List ByteArray} {a b s : ByteArray} {c : UInt8} (H : Sep a b s c) (hs : s.size ≤ 40000) {xs ys : List Tok} {q1 q2 : Nat} {e2 : Int} (h1 : scanAll l a = (xs, q1, 0)) (h2 : scanAll l b = (ys, q2, e2)) :
    (e2 = 0 → scanAll l s = (xs ++ ys.map (shT (a.size + 1)), 0, 0)) ∧ (e2 ≠ 0 → scanAll l s = ([], q2 + a.size + 1, e2)) := by
  have hz := H.size
  obtain ⟨_, _, _, h1', _⟩ := all_bounds (by omega) h1
  obtain ⟨hc, hq1, hsa⟩ := h1' rfl
  have hp := scan_parts H (kwp l) hsa
  obtain ⟨_, _, b3⟩ := scan_bounds (kwp l) b
  have es : scanAll l s = match scanE (kwp l) s with
    | (xs, none) => (xs, 0, 0)
    | (_, some (q, c)) => ([], q, c) := by
    unfold scanAll
    rw [if_neg (by simpa using hc), if_neg (by omega)]
    rfl
  have eb : scanAll l b = match scanE (kwp l) b with
    | (xs, none) => (xs, 0, 0)
    | (_, some (q, c)) => ([], q, c) := by
    unfold scanAll
    rw [if_neg (by simpa using hc), if_neg (by omega)]
    rfl
  rw [eb] at h2
  rw [es, hp]
  cases hsc : scanE (kwp l) b with
  | mk zs o =>
    rw [hsc] at h2 b3
    cases o with
    | none =>
      cases h2
      exact ⟨fun _ => rfl, fun h => absurd rfl h⟩
    | some r =>
      obtain ⟨p, c⟩ := r
      cases h2
      obtain ⟨_, h3⟩ := b3 _ _ rfl
      refine ⟨fun h => (by rcases h3 with h' | h' | h' <;> rw [h'] at h <;> cases h), fun _ => ?_⟩
      simp only [Option.map_some]
      rw [show a.size + 1 + q2 = q2 + a.size + 1 by omega]

theorem own_below {w w' : World} {base : Nat} {e : TypeId} {size n : Nat} {v : Value} {xs : List Value} (h : w.ownsRow base e size v n xs) (hb : Below w.heap.size w w') : w'.ownsRow base e size v n xs := by
  obtain ⟨h1, h2⟩ := h
  refine ⟨h1, ?_⟩
  rcases h2 with h2 | ⟨g, cap, cur, hv, hg, hh, h3⟩
  · exact .inl h2
  · exact .inr ⟨g, cap, cur, hv, hg, by rw [hb.block g (Array.getElem?_eq_some_iff.1 hh).1]; exact hh, h3⟩
theorem hold_reads {w : World} {base : Nat} {v : Value} {xs : List Tok} (h : Hold w base v xs) : ∃ A c, v = .slice A xs.length c ∧ xs.length ≤ c ∧ Kd.C k36 w A xs.length (xs.map s36) := by
  rcases h with ⟨rfl, A, rfl⟩ | h
  · exact ⟨A, 0, rfl, Nat.le_refl _, reads_nil w A⟩
  · have := Kd.R_reads (TokRow.kd h)
    rwa [List.length_map] at this

theorem eql_nil (a : Option Addr) (l c : Nat) (w : World) : (binOp .eql 27 (.slice a l c) (.slice none 0 0)).run Try.prog w = .ok (.bool a.isNone) w := by
  simp only [binOp]
  simp [run_equal_slice_nil w _ _ a l c Try.underlying27]
set_option maxRecDepth 100000 in
set_option maxHeartbeats 1000000 in
theorem Clone_calls (w : World) (base : Nat) (v : Value) (xs : List Tok) (h : TokRow w base v xs) (hl : xs.length ≤ 1000000) :
    Calls Try.prog 14 #[v] w fun r w' => ∃ v', r = .returned v' ∧ Hold w' w.heap.size v' xs ∧ Below w.heap.size w w' := by
  have hu := fun (a : Option Addr) (l c : Nat) (w : World) => eql_nil a l c w
  rcases row_cases h with ⟨rfl, rfl⟩ | ⟨g, cap, tail, rfl, hg, hh, hc, hcm, ht⟩
  · go_enter Try.func14, Try.ntmps14
    go_wp2
    go_ret
    exact ⟨_, rfl, .inl ⟨rfl, none, rfl⟩, Below.refl _ _⟩
  · have hal : Below w.heap.size w (w.alloc (.cells #[] 36)) := (Below.refl _ w).alloc (Nat.le_refl _) _
    have h' : TokRow (w.alloc (.cells #[] 36)) base (.slice (some ⟨g, 0, none⟩) xs.length cap) xs := own_below h hal
    obtain ⟨v', w', hrun, ho, hb⟩ := append_run (base := w.heap.size) (v := .slice (some ⟨w.heap.size, 0, none⟩) 0 0) (xs := []) (.inl ⟨rfl, _, rfl⟩) h' (by simp) (by simpa using hl)
    rw [List.nil_append] at ho
    have Hrun := Lib.hid hrun
    have Ho := Lib.hid ho
    have hb' := hal.trans hb
    clear hrun ho h h' hh ht hb hal
    go_enter Try.func14, Try.ntmps14
    go_wp2_with (at_builtin; refine wpList_append_run rfl _ _ 27 rfl _ _ rfl rfl v' w' Hrun.out ?_)
    go_ret
    exact ⟨_, rfl, Ho.out, hb'⟩
end Go.Proofs.Ytmkfeanggmjhmaa.Y
