/- The tokens of a text, joined, have the same tokens again.  It names no program. -/
import Derived.Test.YtmkfeanggmjhmaaGreatJ2
import Derived.Test.YtmkfeanggmjhmaaGreatPl1
namespace Go.Proofs.YtmkfeanggmjhmaaGreat.J
open Go Go.RowKit Go.Proofs.YtmkfeanggmjhmaaGreatW.PrintWords Go.Proofs.YtmkfeanggmjhmaaGreat.M Go.Proofs.YtmkfeanggmjhmaaGreat.Q Go.Proofs.YtmkfeanggmjhmaaGreat.Wr Go.Proofs.YtmkfeanggmjhmaaGreat.Pl
set_option linter.unusedSimpArgs false
set_option linter.unusedVariables false

theorem sameK_append : ∀ (a b c d : List Tk), sameK a b = true → sameK c d = true → sameK (a ++ c) (b ++ d) = true
  | [], [], c, d, _, h => h
  | x :: r, y :: t, c, d, h1, h2 => by
    unfold sameK at h1
    rw [List.cons_append, List.cons_append]
    unfold sameK
    simp only [Bool.and_eq_true] at h1 ⊢
    exact ⟨h1.1, h1.2.1, sameK_append r t c d h1.2.2 h2⟩
  | [], y :: t, c, d, h1, _ => by simp [sameK] at h1
  | x :: r, [], c, d, h1, _ => by simp [sameK] at h1
theorem sameK_symm : ∀ (a b : List Tk), sameK a b = true → sameK b a = true
  | [], [], _ => rfl
  | x :: r, y :: t, h => by
    unfold sameK at h ⊢
    simp only [Bool.and_eq_true, beq_iff_eq] at h ⊢
    exact ⟨h.1.symm, h.2.1.symm, sameK_symm r t h.2.2⟩
  | [], y :: t, h => by simp [sameK] at h
  | x :: r, [], h => by simp [sameK] at h
def sumS (p : List UInt8 → Bool) (ts : List Tk) : Nat := (ts.map (fun x => (strOf p x).size)).sum
/-- a token that is written, and read again -/
def Good (p : List UInt8 → Bool) (x : Tk) : Prop := errOf p x = 0 ∧ scanE p (strOf p x) = ([⟨x.1, x.2.1, 0⟩], none)
theorem chain_good {p : List UInt8 → Bool} {s : ByteArray} (hs : s.size ≤ 40000) : ∀ (xs : List Tok) (i : Nat), i ≤ s.size → Chain p s i xs → (∀ x ∈ xs.map tk, Good p x) ∧ sumS p (xs.map tk) ≤ s.size - i
  | [], i, _, _ => ⟨fun x h => by simp at h, by simp [sumS]⟩
  | x :: r, i, hi, h => by
    obtain ⟨h1, h2, h3, e, h4, h5, h6⟩ := h
    have hlt := oneE_lt h2 h4
    simp only at hlt
    have hw := write_one hs h2 h3 h4
    obtain ⟨k1, k2⟩ := chain_good hs r e h5 h6
    have hstr : strOf p (tk x) = s.extract x.at_ e := by
      show (writeE p x.kind x.text).1 = _
      rw [hw]
    have herr : errOf p (tk x) = 0 := by
      show (writeE p x.kind x.text).2 = _
      rw [hw]
    refine ⟨fun y hy => ?_, ?_⟩
    · rw [List.map_cons] at hy
      rcases List.mem_cons.1 hy with rfl | hy
      · exact ⟨herr, by rw [hstr]; exact scan_cut h2 h3 h4⟩
      · exact k1 y hy
    · unfold sumS at *
      rw [List.map_cons, List.map_cons, List.sum_cons, hstr, cut_size s _ _ h5]
      omega
theorem firstErr_zero {p : List UInt8 → Bool} : ∀ (ts : List Tk), (∀ x ∈ ts, Good p x) → firstErr p ts = 0
  | [], _ => rfl
  | x :: r, h => by
    unfold firstErr
    rw [if_neg (by rw [(h x (List.mem_cons_self ..)).1]; decide)]
    exact firstErr_zero r (fun y hy => h y (List.mem_cons_of_mem _ hy))
theorem cat_size (a b : ByteArray) : (a ++ b).size = a.size + b.size := ByteArray.size_append
theorem sep_space (a b : ByteArray) : Sep a b (a ++ ⟨#[32]⟩ ++ b) 32 where
  eq := by
    have h1 : (a ++ (⟨#[32]⟩ : ByteArray) ++ b).data = a.data ++ #[32] ++ b.data := by
      rw [ByteArray.data_append, ByteArray.data_append]
    rw [h1]
    simp
  no := .inr rfl
theorem same_one (x : Tk) (q : Int) : sameK [(x.1, x.2.1, q)] [x] = true := by simp [sameK]
theorem join_loop {p : List UInt8 → Bool} {all : List Tk} : ∀ (rest : List Tk) (i : Nat) (out : ByteArray) (ys : List Tok), all.drop i = rest → (∀ x ∈ rest, Good p x) → scanE p out = (ys, none) → sameK (ys.map tk) (all.take i) = true → out.size + sumS p rest + rest.length ≤ 40000 →
    ∃ o zs, joinF p all i (rest.map (strOf p)) out = (o, 0) ∧ scanE p o = (zs, none) ∧ sameK (zs.map tk) all = true ∧ o.size ≤ out.size + sumS p rest + rest.length
  | [], i, out, ys, hd, hg, hs, hk, hb => by
    have ht : all.take i = all := by
      have := List.take_append_drop i all
      rw [hd, List.append_nil] at this
      exact this
    rw [ht] at hk
    exact ⟨out, ys, rfl, hs, hk, by simp [sumS]⟩
  | x :: r, i, out, ys, hd, hg, hs, hk, hb => by
    have hil : i < all.length := by
      rcases Nat.lt_or_ge i all.length with h | h
      · exact h
      · rw [List.drop_eq_nil_of_le h] at hd; cases hd
    have hx : all[i]'hil = x := by
      rw [List.drop_eq_getElem_cons hil] at hd
      exact (List.cons.inj hd).1
    have hd' : all.drop (i + 1) = r := by
      rw [List.drop_eq_getElem_cons hil] at hd
      exact (List.cons.inj hd).2
    have ht' : all.take (i + 1) = all.take i ++ [x] := by rw [List.take_add_one, List.getElem?_eq_getElem hil, hx]; rfl
    obtain ⟨ge, gs⟩ := hg x (List.mem_cons_self ..)
    have hsum : sumS p (x :: r) = (strOf p x).size + sumS p r := by unfold sumS; rw [List.map_cons, List.sum_cons]
    rw [hsum, List.length_cons] at hb ⊢
    have hg' : ∀ y ∈ r, Good p y := fun y hy => hg y (List.mem_cons_of_mem _ hy)
    have key : ∃ zs, scanE p (nextJ p all i out (strOf p x)) = (zs, none) ∧ sameK (zs.map tk) (all.take (i + 1)) = true ∧ (nextJ p all i out (strOf p x)).size ≤ out.size + 1 + (strOf p x).size := by
      unfold nextJ
      cases hok : okJ p all i out (strOf p x) with
      | true =>
        rw [if_pos rfl]
        unfold okJ at hok
        rw [Bool.and_eq_true] at hok
        obtain ⟨_, h2⟩ := hok
        cases hsc : scanE p (out ++ strOf p x) with
        | mk zs o =>
          rw [hsc] at h2
          cases o with
          | none => exact ⟨zs, rfl, h2, by rw [cat_size]; omega⟩
          | some q => simp at h2
      | false =>
        rw [if_neg Bool.false_ne_true]
        have hp := scan_parts (sep_space out (strOf p x)) p hs
        rw [gs] at hp
        refine ⟨_, hp, ?_, by rw [cat_size, cat_size]; exact Nat.le_refl _⟩
        rw [ht', List.map_append]
        exact sameK_append _ _ _ _ hk (same_one x _)
    obtain ⟨zs, k1, k2, k3⟩ := key
    obtain ⟨o, vs, j1, j2, j3, j4⟩ := join_loop r (i + 1) (nextJ p all i out (strOf p x)) zs hd' hg' k1 k2 (by omega)
    refine ⟨o, vs, ?_, j2, j3, by omega⟩
    rw [List.map_cons]
    unfold joinF
    rw [if_neg (by omega)]
    exact j1
theorem scan_empty (p : List UInt8 → Bool) : scanE p ⟨#[]⟩ = ([], none) := by
  have hp : preAt ⟨#[]⟩ 0 [40, 42] = false := by
    rw [Bool.eq_false_iff]
    intro hp
    have := preAt_le hp (Nat.le_refl _)
    simp only [List.length_cons, List.length_nil] at this
    have e : (⟨#[]⟩ : ByteArray).size = 0 := rfl
    omega
  have hw : whileE blankB ⟨#[]⟩ 0 = 0 := whileE_end _ _ 0 (Nat.le_refl 0)
  have hb : blanksE ⟨#[]⟩ 0 = .ok 0 := by
    rw [blanksE_none _ 0 (by rw [hw]; exact hp), hw]
  unfold scanE
  rw [hb]
  simp only
  exact scanFrom_end _ _ _ _ (Nat.le_refl _)
theorem join_back {p : List UInt8 → Bool} {s : ByteArray} (hs : s.size ≤ 800) {xs : List Tok} (h : scanE p s = (xs, none)) :
    ∃ o zs, joinE p (xs.map tk) = (o, 0) ∧ scanE p o = (zs, none) ∧ sameK (xs.map tk) (zs.map tk) = true ∧ o.size ≤ sumS p (xs.map tk) + ((xs.map tk).length - 1) := by
  have hc := scan_chain h
  obtain ⟨hg, hsum⟩ := chain_good (by omega) xs 0 (Nat.zero_le _) hc
  have hl : xs.length ≤ s.size := by have := (scan_bounds p s).1; rw [h] at this; exact this
  have hlen : (xs.map tk).length ≤ s.size := by rw [List.length_map]; exact hl
  have h0 := firstErr_zero _ hg
  unfold joinE
  rw [if_neg (by omega), if_neg (by rw [h0]; decide)]
  generalize xs.map tk = ts at *
  cases ts with
  | nil => exact ⟨⟨#[]⟩, [], rfl, scan_empty p, rfl, Nat.zero_le _⟩
  | cons x r =>
    obtain ⟨ge, gs⟩ := hg x (List.mem_cons_self ..)
    have hss : sumS p (x :: r) = (strOf p x).size + sumS p r := by unfold sumS; rw [List.map_cons, List.sum_cons]
    rw [List.length_cons] at hlen ⊢
    rw [hss] at hsum ⊢
    have he : (⟨#[]⟩ : ByteArray) ++ strOf p x = strOf p x := by
      apply ByteArray.ext
      rw [ByteArray.data_append]
      simp
    have hn : nextJ p (x :: r) 0 ⟨#[]⟩ (strOf p x) = strOf p x := by
      unfold nextJ
      rw [if_pos, he]
      unfold okJ
      rw [he, gs]
      have e0 : (⟨#[]⟩ : ByteArray).size = 0 := rfl
      rw [e0, Bool.and_eq_true]
      exact ⟨decide_eq_true (by omega), same_one x _⟩
    obtain ⟨o, zs, j1, j2, j3, j4⟩ := join_loop (p := p) (all := x :: r) r 1 (strOf p x) _ rfl (fun y hy => hg y (List.mem_cons_of_mem _ hy)) gs (same_one x _) (by omega)
    refine ⟨o, zs, ?_, j2, sameK_symm _ _ j3, by omega⟩
    rw [List.map_cons]
    unfold joinF
    rw [hn, if_neg (by omega)]
    exact j1
end Go.Proofs.YtmkfeanggmjhmaaGreat.J
