/- What the printed functions of the reference and of the program's small functions answer, by the plain model.  No memory in sight. -/
import Derived.Test.YtggfjfmgclcnlaaPSatSolvesx3
import Derived.Test.YtggfjfmgclcnlaaE
import Derived.Test.YtggfjfmgclcnlaaZa
namespace Go.Proofs.Ytggfjfmgclcnlaa.Z
set_option linter.unusedSimpArgs false
set_option linter.unusedVariables false
open Go Go.RowKit Go.Proofs.Ytggfjfmgclcnlaa.E Go.Proofs.YtggfjfmgclcnlaaW.PrintWords Go.Proofs.YtggfjfmgclcnlaaW.PrintLast Go.Proofs.YtggfjfmgclcnlaaW.PrintMore Go.Proofs.Ytggfjfmgclcnlaa.PSatSolves

theorem rd_at {l : List Int} {i : Nat} (h : i < l.length) : rd l (i : Int) = l[i] := by
  unfold rd
  rw [Int.toNat_natCast, List.getD_eq_getElem?_getD, List.getElem?_eq_getElem h]; rfl
theorem rdL_at {l : List (List Int)} {i : Nat} (h : i < l.length) : rd_L1 l (i : Int) = l[i] := by
  unfold rd_L1
  rw [Int.toNat_natCast, List.getD_eq_getElem?_getD, List.getElem?_eq_getElem h]; rfl
theorem w64i {i : Nat} (h : i ≤ 2000000000) : wrap64 ((i : Int) + 1) = ((i + 1 : Nat) : Int) := by rw [w64 (by omega) (by omega)]; omega
theorem abs_eq {x : Int} (h : -1000000000 ≤ x) : triforiumref25_abs.f x = some (atm x) := by
  unfold triforiumref25_abs.f atm
  by_cases h1 : x < 0
  · rw [if_pos h1, if_pos h1]
    by_cases h2 : -x ≤ 9223372036854775807
    · rw [w64 (by omega) h2]
    · omega
  · rw [if_neg h1, if_neg h1]
theorem atom_eq {x : Int} (h : -1000000000 ≤ x) : sat_literal_atom.f x = some (atm x) := abs_eq h
theorem lit_eq (x : Int) : sat_literal_right.f x = some (decide (x ≠ 0) && decide (-60 ≤ x) && decide (x ≤ 60)) := by
  unfold sat_literal_right.f
  by_cases h1 : x = 0
  · rw [if_pos h1]; simp [h1]
  · rw [if_neg h1]
    by_cases h2 : x ≥ -60
    · rw [if_pos h2, decide_eq_true (show x ≠ 0 from h1), decide_eq_true (show -60 ≤ x from h2)]; rfl
    · rw [if_neg h2, decide_eq_true (show x ≠ 0 from h1), decide_eq_false (show ¬ -60 ≤ x from h2)]; rfl

/-! ### members -/
theorem dec_cons {x y : Int} {r : List Int} (h : x ≠ y) : decide (x ∈ r) = decide (x ∈ y :: r) := by
  rw [decide_eq_decide]
  exact ⟨fun h => List.mem_cons_of_mem _ h, fun h' => (List.mem_cons.1 h').resolve_left h⟩
theorem index_ev (l : List Int) (x : Int) (hl : l.length ≤ 1000000000) : ∀ (n i : Nat), l.length - i = n → i ≤ l.length → ∃ r : Int, Evt (fun k => slices_Index_int_int.l0 k l x (l.length : Int) (i : Int)) r ∧ decide (r ≥ 0) = decide (x ∈ l.drop i)
  | 0, i, hn, hi => by
    refine ⟨-1, Evt.succ (g := fun _ => some (-1)) (fun k => ?_) (Evt.const _), ?_⟩
    · rw [slices_Index_int_int.l0, if_neg (by omega)]
    · rw [List.drop_eq_nil_of_le (by omega)]; rfl
  | n + 1, i, hn, hi => by
    have hlt : i < l.length := by omega
    have hx := rd_at hlt
    rw [List.drop_eq_getElem_cons hlt]
    by_cases e : x = l[i]
    · refine ⟨(i : Int), Evt.succ (g := fun _ => some (i : Int)) (fun k => ?_) (Evt.const _), ?_⟩
      · rw [slices_Index_int_int.l0, if_pos (by omega), if_pos (by omega), if_pos (by omega), hx, if_pos e]
      · rw [decide_eq_true (by omega), decide_eq_true (by rw [← e]; exact List.mem_cons_self ..)]
    · obtain ⟨r, h1, h2⟩ := index_ev l x hl n (i + 1) (by omega) (by omega)
      refine ⟨r, Evt.succ (g := fun k => slices_Index_int_int.l0 k l x (l.length : Int) ((i + 1 : Nat) : Int)) (fun k => ?_) h1, ?_⟩
      · rw [slices_Index_int_int.l0, if_pos (by omega), if_pos (by omega), if_pos (by omega), hx, if_neg e, w64i (by omega)]
      · rw [h2]; exact dec_cons e
theorem shas (l : List Int) (x : Int) (hl : l.length ≤ 1000000000) : Evt (fun k => sat_has_int.f k l x) (decide (x ∈ l)) := by
  obtain ⟨r, h1, h2⟩ := index_ev l x hl _ 0 rfl (Nat.zero_le _)
  rw [List.drop_zero] at h2
  exact (Evt.bind (f := fun _ t => some (decide (t ≥ 0))) h1 (Evt.const _)).eq h2

/-! ### right clauses -/
theorem lit_and {x p : Int} {r : Cls} : rightF p (x :: r) = ((decide (x ≠ 0) && decide (-60 ≤ x) && decide (x ≤ 60)) && (decide (p < atm x) && rightF (atm x) r)) := by
  rw [rightF]
  simp only [Bool.and_assoc]
theorem right_ev (l : List Int) (hl : l.length ≤ 1000000000) : ∀ (n i : Nat) (p : Int), l.length - i = n → i ≤ l.length → (p = if i = 0 then 0 else atm (rd l ((i - 1 : Nat) : Int))) → (0 < i → -60 ≤ rd l ((i - 1 : Nat) : Int)) → Evt (fun k => triforiumref25_right.l0 k l (i : Int)) (rightF p (l.drop i))
  | 0, i, p, hn, hi, hp, hq => by
    refine Evt.succ (g := fun _ => some (rightF p (l.drop i))) (fun k => ?_) (Evt.const _)
    rw [triforiumref25_right.l0, if_neg (by omega), List.drop_eq_nil_of_le (by omega)]; rfl
  | n + 1, i, p, hn, hi, hp, hq => by
    have hlt : i < l.length := by omega
    have hx := rd_at hlt
    rw [List.drop_eq_getElem_cons hlt, lit_and]
    have st : ∀ (b : Bool) (g : Nat → Option Bool), (∀ k, triforiumref25_right.l0 (k + 1) l (i : Int) = g k) → Evt g b → Evt (fun k => triforiumref25_right.l0 k l (i : Int)) b := fun b g h1 h2 => Evt.succ h1 h2
    generalize hy : l[i] = y at hx
    by_cases h1 : y = 0
    · refine (st false (fun _ => some false) (fun k => ?_) (Evt.const _)).eq (by simp [h1])
      rw [triforiumref25_right.l0, if_pos (by omega), if_pos (by omega), hx, if_pos h1]
    by_cases h2 : y > 60
    · refine (st false (fun _ => some false) (fun k => ?_) (Evt.const _)).eq (by rw [decide_eq_false (show ¬ y ≤ 60 by omega)]; simp)
      rw [triforiumref25_right.l0, if_pos (by omega), if_pos (by omega), hx, if_neg h1, if_pos h2]
    by_cases h3 : y < -60
    · refine (st false (fun _ => some false) (fun k => ?_) (Evt.const _)).eq (by rw [decide_eq_false (show ¬ -60 ≤ y by omega)]; simp)
      rw [triforiumref25_right.l0, if_pos (by omega), if_pos (by omega), hx, if_neg h1, if_neg h2, if_pos h3]
    rw [decide_eq_true (show y ≠ 0 from h1), decide_eq_true (show -60 ≤ y by omega), decide_eq_true (show y ≤ 60 by omega)]
    simp only [Bool.true_and]
    have ay := abs_eq (x := y) (by omega)
    have ih := right_ev l hl n (i + 1) (atm y) (by omega) (by omega) (by rw [if_neg (by omega), Nat.add_sub_cancel, hx]) (fun _ => by rw [Nat.add_sub_cancel, hx]; omega)
    by_cases h4 : i = 0
    · subst h4
      rw [if_pos rfl] at hp
      subst hp
      have h0 : (0 : Int) < atm y := by unfold atm; split <;> omega
      rw [decide_eq_true h0, Bool.true_and]
      refine st _ (fun k => triforiumref25_right.l0 k l ((0 + 1 : Nat) : Int)) (fun k => ?_) ih
      rw [triforiumref25_right.l0, if_pos (by omega), if_pos (by omega), hx, if_neg h1, if_neg h2, if_neg h3, if_neg (by omega), w64i (by omega)]
    · rw [if_neg h4] at hp
      have hq' := hq (by omega)
      have ap := abs_eq (x := rd l ((i - 1 : Nat) : Int)) (by omega)
      have ew : wrap64 ((i : Int) - 1) = ((i - 1 : Nat) : Int) := by rw [w64 (by omega) (by omega)]; omega
      by_cases h5 : p < atm y
      · rw [decide_eq_true h5, Bool.true_and]
        refine st _ (fun k => triforiumref25_right.l0 k l ((i + 1 : Nat) : Int)) (fun k => ?_) ih
        rw [triforiumref25_right.l0, if_pos (by omega), if_pos (by omega), hx, if_neg h1, if_neg h2, if_neg h3, if_pos (by omega), ew, if_pos (by omega), if_pos (by omega), ap, Option.bind_some, ay, Option.bind_some, if_neg (by omega), w64i (by omega)]
      · rw [decide_eq_false h5, Bool.false_and]
        refine st _ (fun _ => some false) (fun k => ?_) (Evt.const _)
        rw [triforiumref25_right.l0, if_pos (by omega), if_pos (by omega), hx, if_neg h1, if_neg h2, if_neg h3, if_pos (by omega), ew, if_pos (by omega), if_pos (by omega), ap, Option.bind_some, ay, Option.bind_some, if_pos (by omega)]
theorem rright (l : List Int) (hl : l.length ≤ 1000000000) : Evt (fun k => triforiumref25_right.f k l) (rightC l) := right_ev l hl _ 0 0 rfl (Nat.zero_le _) (by rw [if_pos rfl]) (fun h => absurd h (Nat.lt_irrefl _))
theorem sright_ev (l : List Int) (hl : l.length ≤ 1000000000) : ∀ (n i : Nat) (p : Int), l.length - i = n → i ≤ l.length → Evt (fun k => sat_Clause_right.l0 k p l (l.length : Int) (i : Int)) (rightF p (l.drop i))
  | 0, i, p, hn, hi => by
    refine Evt.succ (g := fun _ => some (rightF p (l.drop i))) (fun k => ?_) (Evt.const _)
    rw [sat_Clause_right.l0, if_neg (by omega), List.drop_eq_nil_of_le (by omega)]; rfl
  | n + 1, i, p, hn, hi => by
    have hlt : i < l.length := by omega
    have hx := rd_at hlt
    rw [List.drop_eq_getElem_cons hlt, lit_and]
    generalize hy : l[i] = y at hx
    cases hb : (decide (y ≠ 0) && decide (-60 ≤ y) && decide (y ≤ 60)) with
    | false =>
      rw [Bool.false_and]
      refine Evt.succ (g := fun _ => some false) (fun k => ?_) (Evt.const _)
      rw [sat_Clause_right.l0, if_pos (by omega), if_pos (by omega), if_pos (by omega), hx, lit_eq, Option.bind_some, hb, if_neg (by decide)]
    | true =>
      rw [Bool.true_and]
      simp only [Bool.and_eq_true, decide_eq_true_eq] at hb
      have ay := atom_eq (x := y) (by omega)
      have hb' : (decide (y ≠ 0) && decide (-60 ≤ y) && decide (y ≤ 60)) = true := by simp only [Bool.and_eq_true, decide_eq_true_eq]; exact hb
      by_cases h5 : p < atm y
      · rw [decide_eq_true h5, Bool.true_and]
        refine Evt.succ (g := fun k => sat_Clause_right.l0 k (atm y) l (l.length : Int) ((i + 1 : Nat) : Int)) (fun k => ?_) (sright_ev l hl n (i + 1) (atm y) (by omega) (by omega))
        rw [sat_Clause_right.l0, if_pos (by omega), if_pos (by omega), if_pos (by omega), hx, lit_eq, Option.bind_some, hb', if_pos rfl, ay, Option.bind_some, if_neg (by omega), Option.bind_some, w64i (by omega)]
      · rw [decide_eq_false h5, Bool.false_and]
        refine Evt.succ (g := fun _ => some false) (fun k => ?_) (Evt.const _)
        rw [sat_Clause_right.l0, if_pos (by omega), if_pos (by omega), if_pos (by omega), hx, lit_eq, Option.bind_some, hb', if_pos rfl, ay, Option.bind_some, if_pos (by omega)]
theorem sright (l : List Int) (hl : l.length ≤ 1000000000) : Evt (fun k => sat_Clause_right.f k l) (rightC l) := sright_ev l hl _ 0 0 rfl (Nat.zero_le _)
theorem check_ev (l : List (List Int)) (hl : l.length ≤ 1000000000) (hc : ∀ c ∈ l, c.length ≤ 1000000000) : ∀ (n i : Nat), l.length - i = n → i ≤ l.length → Evt (fun k => triforiumref25_Check.l0 k l (i : Int)) (if (l.drop i).all rightC then 0 else 270)
  | 0, i, hn, hi => by
    refine (Evt.succ (g := fun _ => some 0) (fun k => ?_) (Evt.const _)).eq (by rw [List.drop_eq_nil_of_le (by omega)]; rfl)
    rw [triforiumref25_Check.l0, if_neg (by omega)]
  | n + 1, i, hn, hi => by
    have hlt : i < l.length := by omega
    have hx := rdL_at hlt
    have hm := hc _ (List.getElem_mem hlt)
    rw [List.drop_eq_getElem_cons hlt, List.all_cons]
    generalize l[i] = y at hx hm
    have hr := rright y hm
    have st : ∀ r, Evt (fun k => (fun t : Bool => if t = true then triforiumref25_Check.l0 k l ((i + 1 : Nat) : Int) else some 270) (rightC y)) r → Evt (fun k => triforiumref25_Check.l0 k l (i : Int)) r := fun r h =>
      Evt.succ (g := fun k => (triforiumref25_right.f k y).bind (fun t => if t = true then triforiumref25_Check.l0 k l ((i + 1 : Nat) : Int) else some 270)) (fun k => by
        rw [triforiumref25_Check.l0, if_pos (by omega), if_pos (by omega), hx, w64i (by omega)]) (Evt.bind (f := fun k t => if t = true then triforiumref25_Check.l0 k l ((i + 1 : Nat) : Int) else some 270) hr h)
    cases hb : rightC y with
    | true => rw [Bool.true_and]; exact st _ (by rw [hb]; exact (check_ev l hl hc n (i + 1) (by omega) (by omega)).congr (fun k => if_pos rfl))
    | false => rw [Bool.false_and]; exact st _ (by rw [hb]; exact (Evt.const (270 : Int)).congr (fun k => if_neg (by decide)))
theorem rcheck (l : List (List Int)) (hl : l.length ≤ 1000000000) (hc : 500 < l.length ∨ ∀ c ∈ l, c.length ≤ 1000000000) : Evt (fun k => triforiumref25_Check.f k l) (checkL l) := by
  unfold triforiumref25_Check.f checkL
  by_cases h : 500 < l.length
  · rw [if_pos h]; exact (Evt.const (5 : Int)).congr (fun k => if_pos (by omega))
  · rw [if_neg h]; exact (check_ev l hl (hc.resolve_left h) _ 0 rfl (Nat.zero_le _)).congr (fun k => if_neg (by omega))
theorem scheck_ev (l : List (List Int)) (hl : l.length ≤ 1000000000) (hc : ∀ c ∈ l, c.length ≤ 1000000000) : ∀ (n i : Nat), l.length - i = n → i ≤ l.length → Evt (fun k => sat_Check.l0 k l (l.length : Int) (i : Int)) (if (l.drop i).all rightC then 0 else 270)
  | 0, i, hn, hi => by
    refine (Evt.succ (g := fun _ => some 0) (fun k => ?_) (Evt.const _)).eq (by rw [List.drop_eq_nil_of_le (by omega)]; rfl)
    rw [sat_Check.l0, if_neg (by omega)]
  | n + 1, i, hn, hi => by
    have hlt : i < l.length := by omega
    have hx := rdL_at hlt
    have hm := hc _ (List.getElem_mem hlt)
    rw [List.drop_eq_getElem_cons hlt, List.all_cons]
    generalize l[i] = y at hx hm
    have hr := sright y hm
    have st : ∀ r, Evt (fun k => (fun t : Bool => if t = true then sat_Check.l0 k l (l.length : Int) ((i + 1 : Nat) : Int) else some 270) (rightC y)) r → Evt (fun k => sat_Check.l0 k l (l.length : Int) (i : Int)) r := fun r h =>
      Evt.succ (g := fun k => (sat_Clause_right.f k y).bind (fun t => if t = true then sat_Check.l0 k l (l.length : Int) ((i + 1 : Nat) : Int) else some 270)) (fun k => by
        rw [sat_Check.l0, if_pos (by omega), if_pos (by omega), if_pos (by omega), hx, w64i (by omega)]) (Evt.bind (f := fun k t => if t = true then sat_Check.l0 k l (l.length : Int) ((i + 1 : Nat) : Int) else some 270) hr h)
    cases hb : rightC y with
    | true => rw [Bool.true_and]; exact st _ (by rw [hb]; exact (scheck_ev l hl hc n (i + 1) (by omega) (by omega)).congr (fun k => if_pos rfl))
    | false => rw [Bool.false_and]; exact st _ (by rw [hb]; exact (Evt.const (270 : Int)).congr (fun k => if_neg (by decide)))
theorem scheck (l : List (List Int)) (hl : l.length ≤ 1000000000) (hc : 500 < l.length ∨ ∀ c ∈ l, c.length ≤ 1000000000) : Evt (fun k => sat_Check.f k l) (checkL l) := by
  unfold sat_Check.f checkL
  by_cases h : 500 < l.length
  · rw [if_pos h]; exact (Evt.const (5 : Int)).congr (fun k => if_pos (by omega))
  · rw [if_neg h]; exact (scheck_ev l hl (hc.resolve_left h) _ 0 rfl (Nat.zero_le _)).congr (fun k => if_neg (by omega))
end Go.Proofs.Ytggfjfmgclcnlaa.Z
namespace Go.Proofs.Ytggfjfmgclcnlaa.Z
set_option linter.unusedSimpArgs false
set_option linter.unusedVariables false
open Go Go.RowKit Go.Proofs.Ytggfjfmgclcnlaa.E Go.Proofs.YtggfjfmgclcnlaaW.PrintWords Go.Proofs.YtggfjfmgclcnlaaW.PrintLast Go.Proofs.YtggfjfmgclcnlaaW.PrintMore Go.Proofs.Ytggfjfmgclcnlaa.PSatSolves

theorem abs_some (x : Int) : ∃ a, triforiumref25_abs.f x = some a := by
  unfold triforiumref25_abs.f
  by_cases h : x < 0
  · exact ⟨_, if_pos h⟩
  · exact ⟨_, if_neg h⟩
def absW (x : Int) : Int := (triforiumref25_abs.f x).getD 0
theorem absW_eq (x : Int) : triforiumref25_abs.f x = some (absW x) := by
  obtain ⟨a, h⟩ := abs_some x
  unfold absW
  rw [h]; rfl
def gI (m x : Int) : Int := mx m (absW x)
theorem grt_in (l : List (List Int)) (R : Int → Int) (i : Nat) (hi : i < l.length) (hl : (l[i]).length ≤ 1000000000) (hl2 : l.length ≤ 1000000000)
    (hn : ∀ acc, Evt (fun k => triforiumref25_Greatest.l0 k l acc ((i + 1 : Nat) : Int)) (R acc)) : ∀ (n j : Nat) (acc : Int), (l[i]).length - j = n → j ≤ (l[i]).length → Evt (fun k => triforiumref25_Greatest.l1 k l acc (i : Int) (j : Int)) (R (((l[i]).drop j).foldl gI acc))
  | 0, j, acc, h1, h2 => by
    rw [List.drop_eq_nil_of_le (by omega), List.foldl_nil]
    refine Evt.succ (g := fun k => triforiumref25_Greatest.l0 k l acc ((i + 1 : Nat) : Int)) (fun k => ?_) (hn acc)
    rw [triforiumref25_Greatest.l1, if_pos (by omega), if_pos (by omega), rdL_at hi, if_neg (by omega), w64i (by omega)]
  | n + 1, j, acc, h1, h2 => by
    have hlt : j < (l[i]).length := by omega
    rw [List.drop_eq_getElem_cons hlt, List.foldl_cons]
    refine Evt.succ (g := fun k => triforiumref25_Greatest.l1 k l (gI acc ((l[i])[j])) (i : Int) ((j + 1 : Nat) : Int)) (fun k => ?_) (grt_in l R i hi hl hl2 hn n (j + 1) _ (by omega) (by omega))
    rw [triforiumref25_Greatest.l1, if_pos (by omega), if_pos (by omega), rdL_at hi, if_pos (by omega), if_pos (by omega), rd_at hlt, absW_eq, Option.bind_some, w64i (by omega)]
    rfl
theorem grt_out (l : List (List Int)) (hl : l.length ≤ 1000000000) (hc : ∀ c ∈ l, c.length ≤ 1000000000) : ∀ (n i : Nat) (acc : Int), l.length - i = n → i ≤ l.length → Evt (fun k => triforiumref25_Greatest.l0 k l acc (i : Int)) ((l.drop i).foldl (fun m c => c.foldl gI m) acc)
  | 0, i, acc, h1, h2 => by
    rw [List.drop_eq_nil_of_le (by omega), List.foldl_nil]
    refine Evt.succ (g := fun _ => some acc) (fun k => ?_) (Evt.const _)
    rw [triforiumref25_Greatest.l0, if_neg (by omega)]
  | n + 1, i, acc, h1, h2 => by
    have hlt : i < l.length := by omega
    rw [List.drop_eq_getElem_cons hlt, List.foldl_cons]
    have h := grt_in l (fun acc => (l.drop (i + 1)).foldl (fun m c => c.foldl gI m) acc) i hlt (hc _ (List.getElem_mem hlt)) hl (fun acc => grt_out l hl hc n (i + 1) acc (by omega) (by omega)) _ 0 acc rfl (Nat.zero_le _)
    rw [List.drop_zero] at h
    refine Evt.succ (g := fun k => triforiumref25_Greatest.l1 k l acc (i : Int) ((0 : Nat) : Int)) (fun k => ?_) h
    rw [triforiumref25_Greatest.l0, if_pos (by omega)]
    rfl
def grtI (l : List (List Int)) : Int := l.foldl (fun m c => c.foldl gI m) 0
theorem rgrt (l : List (List Int)) (hl : l.length ≤ 1000000000) (hc : ∀ c ∈ l, c.length ≤ 1000000000) : Evt (fun k => triforiumref25_Greatest.f k l) (grtI l) := grt_out l hl hc _ 0 0 rfl (Nat.zero_le _)
theorem gI_lit {m : Nat} {x : Int} (h : -1000000000 ≤ x) : gI (m : Int) x = ((max m x.natAbs : Nat) : Int) := by
  unfold gI absW mx
  rw [abs_eq h, Option.getD_some, atm_abs]
  split <;> omega
theorem grtC (c : Cls) : ∀ (m : Nat), (∀ x ∈ c, -1000000000 ≤ x) → c.foldl gI (m : Int) = ((mostC m c : Nat) : Int) := by
  induction c with
  | nil => intro m _; rfl
  | cons x r ih =>
    intro m h
    rw [List.foldl_cons, gI_lit (h x (List.mem_cons_self ..)), ih _ (fun y hy => h y (List.mem_cons_of_mem _ hy))]
    rfl
theorem grtL (l : List Cls) : ∀ (m : Nat), (∀ c ∈ l, ∀ x ∈ c, -1000000000 ≤ x) → l.foldl (fun m c => c.foldl gI m) (m : Int) = ((l.foldl mostC m : Nat) : Int) := by
  induction l with
  | nil => intro m _; rfl
  | cons c r ih =>
    intro m h
    rw [List.foldl_cons, List.foldl_cons, grtC c m (h c (List.mem_cons_self ..)), ih _ (fun y hy => h y (List.mem_cons_of_mem _ hy))]
theorem lits_low {l : List Cls} (h : ∀ c ∈ l, rightC c = true) : ∀ c ∈ l, ∀ x ∈ c, -1000000000 ≤ x := fun c hc x hx => by
  have := ((right_iff.1 (h c hc)).1 x hx).2.1
  omega
theorem grt_most {l : List Cls} (h : ∀ c ∈ l, rightC c = true) : grtI l = (mostB l : Int) := grtL l 0 (lits_low h)
end Go.Proofs.Ytggfjfmgclcnlaa.Z
