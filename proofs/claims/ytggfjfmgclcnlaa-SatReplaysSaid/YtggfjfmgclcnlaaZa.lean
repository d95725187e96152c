/- Plain model of clauses: literals, right clauses, resolvents; what a resolvent holds.  No program in sight. -/
import Derived.ProofKit
namespace Go.Proofs.Ytggfjfmgclcnlaa.Z
set_option linter.unusedSimpArgs false
set_option linter.unusedVariables false

abbrev Cls := List Int
/-- the atom of a literal -/
def atm (x : Int) : Int := if x < 0 then -x else x
theorem atm_nonneg (x : Int) : 0 ≤ atm x := by unfold atm; split <;> omega
theorem atm_neg (x : Int) : atm (-x) = atm x := by unfold atm; split <;> split <;> omega
theorem atm_eq {x y : Int} (h : atm x = atm y) : x = y ∨ x = -y := by unfold atm at h; split at h <;> split at h <;> omega
theorem atm_abs (x : Int) : atm x = (x.natAbs : Int) := by unfold atm; split <;> omega
def Lit (x : Int) : Prop := x ≠ 0 ∧ -60 ≤ x ∧ x ≤ 60
def rightF : Int → Cls → Bool
  | _, [] => true
  | p, x :: r => decide (x ≠ 0) && decide (-60 ≤ x) && decide (x ≤ 60) && decide (p < atm x) && rightF (atm x) r
def rightC (c : Cls) : Bool := rightF 0 c
def Srt (c : Cls) : Prop := c.Pairwise (fun x y => atm x < atm y)
theorem rightF_iff : ∀ (c : Cls) (p : Int), rightF p c = true ↔ (∀ x ∈ c, Lit x ∧ p < atm x) ∧ Srt c
  | [], p => by simp [rightF, Srt]
  | x :: r, p => by
    rw [rightF, Bool.and_eq_true, Bool.and_eq_true, Bool.and_eq_true, Bool.and_eq_true, decide_eq_true_eq, decide_eq_true_eq, decide_eq_true_eq, decide_eq_true_eq, rightF_iff r (atm x)]
    constructor
    · rintro ⟨⟨⟨⟨h1, h2⟩, h3⟩, h4⟩, h5, h6⟩
      refine ⟨fun y hy => ?_, List.pairwise_cons.2 ⟨fun y hy => (h5 y hy).2, h6⟩⟩
      rcases List.mem_cons.1 hy with rfl | hy
      · exact ⟨⟨h1, h2, h3⟩, h4⟩
      · have := h5 y hy
        exact ⟨this.1, by omega⟩
    · rintro ⟨h1, h2⟩
      have h3 := List.pairwise_cons.1 h2
      have h4 := h1 x (List.mem_cons_self ..)
      exact ⟨⟨⟨⟨h4.1.1, h4.1.2.1⟩, h4.1.2.2⟩, h4.2⟩, fun y hy => ⟨(h1 y (List.mem_cons_of_mem _ hy)).1, h3.1 y hy⟩, h3.2⟩
theorem right_iff {c : Cls} : rightC c = true ↔ (∀ x ∈ c, Lit x) ∧ Srt c := by
  unfold rightC
  rw [rightF_iff]
  constructor
  · rintro ⟨h1, h2⟩
    exact ⟨fun x hx => (h1 x hx).1, h2⟩
  · rintro ⟨h1, h2⟩
    exact ⟨fun x hx => ⟨h1 x hx, by have := (h1 x hx).1; unfold atm; split <;> omega⟩, h2⟩
theorem srt_mem {c : Cls} (h : Srt c) : ∀ {x y : Int}, x ∈ c → y ∈ c → atm x = atm y → x = y := by
  induction c with
  | nil => intro x y hx; exact absurd hx List.not_mem_nil
  | cons z r ih =>
    have h1 := List.pairwise_cons.1 h
    intro x y hx hy e
    rcases List.mem_cons.1 hx with e1 | h2
    · rcases List.mem_cons.1 hy with e2 | h3
      · rw [e1, e2]
      · have := h1.1 y h3; rw [e1] at e; omega
    · rcases List.mem_cons.1 hy with e2 | h3
      · have := h1.1 x h2; rw [e2] at e; omega
      · exact ih h1.2 h2 h3 e
theorem srt_nodup {c : Cls} (h : Srt c) : c.Nodup := h.imp fun h e => by rw [e] at h; omega
theorem right_len {c : Cls} (h : rightC c = true) : c.length ≤ 60 := by
  have key : ∀ (c : Cls) (p : Int), 0 ≤ p → p ≤ 60 → rightF p c = true → (c.length : Int) ≤ 60 - p := by
    intro c
    induction c with
    | nil => intro p h0 h1 _; simp; omega
    | cons x r ih =>
      intro p h0 h1 h
      rw [rightF, Bool.and_eq_true, Bool.and_eq_true, Bool.and_eq_true, Bool.and_eq_true, decide_eq_true_eq, decide_eq_true_eq, decide_eq_true_eq, decide_eq_true_eq] at h
      obtain ⟨⟨⟨⟨h1, h2⟩, h3⟩, h4⟩, h5⟩ := h
      have h6 : atm x ≤ 60 := by unfold atm; split <;> omega
      have := ih (atm x) (atm_nonneg x) h6 h5
      rw [List.length_cons]
      omega
  have := key c 0 (by omega) (by omega) h
  omega
/-- the error of clauses -/
def checkL (l : List Cls) : Int := if 500 < l.length then 5 else if l.all rightC then 0 else 270
theorem checkL_ok {l : List Cls} (h : checkL l = 0) : l.length ≤ 500 ∧ ∀ c ∈ l, rightC c = true := by
  unfold checkL at h
  by_cases h1 : 500 < l.length
  · rw [if_pos h1] at h; exact absurd h (by decide)
  · rw [if_neg h1] at h
    cases h2 : l.all rightC with
    | true => exact ⟨by omega, List.all_eq_true.1 h2⟩
    | false => rw [h2, if_neg (by decide)] at h; exact absurd h (by decide)

/-! ### resolvents -/
/-- a literal put into its place -/
def putL (n : Int) : Cls → Cls
  | [] => [n]
  | x :: r => if atm n < atm x then n :: x :: r else x :: putL n r
theorem putL_perm (n : Int) : ∀ c, (putL n c).Perm (c ++ [n])
  | [] => List.Perm.refl _
  | x :: r => by
    rw [putL]
    by_cases h : atm n < atm x
    · rw [if_pos h]
      exact (List.perm_append_singleton n (x :: r)).symm
    · rw [if_neg h]
      exact (putL_perm n r).cons x
theorem putL_mem {n : Int} {c : Cls} {x : Int} : x ∈ putL n c ↔ x ∈ c ∨ x = n := by
  rw [(putL_perm n c).mem_iff, List.mem_append, List.mem_singleton]
theorem putL_srt (n : Int) : ∀ {c : Cls}, Srt c → (∀ y ∈ c, atm y ≠ atm n) → Srt (putL n c)
  | [], _, _ => List.pairwise_singleton ..
  | x :: r, h, hn => by
    have h1 := List.pairwise_cons.1 h
    rw [putL]
    by_cases hlt : atm n < atm x
    · rw [if_pos hlt]
      refine List.pairwise_cons.2 ⟨fun y hy => ?_, h⟩
      rcases List.mem_cons.1 hy with rfl | hy
      · exact hlt
      · have := h1.1 y hy; omega
    · rw [if_neg hlt]
      refine List.pairwise_cons.2 ⟨fun y hy => ?_, putL_srt n h1.2 (fun y hy => hn y (List.mem_cons_of_mem _ hy))⟩
      rcases putL_mem.1 hy with hy | rfl
      · exact h1.1 y hy
      · have := hn x (List.mem_cons_self ..); omega
def resF (t : Int) : Cls → Cls → Option Cls
  | out, [] => some out
  | out, x :: r => if x = -t ∨ x ∈ out then resF t out r else if -x ∈ out then none else resF t (putL x out) r
/-- the resolvent of two clauses by an atom -/
def resB (a b : Cls) (t : Int) : Option Cls := if t < 1 then none else if t ∈ a then (if -t ∈ b then resF t (a.filter (fun x => decide (x ≠ t))) b else none) else none
theorem resF_spec (t : Int) : ∀ (b out : Cls) {c : Cls}, resF t out b = some c → Srt out → Srt c ∧ ∀ x, x ∈ c ↔ x ∈ out ∨ (x ∈ b ∧ x ≠ -t)
  | [], out, c, h, hs => by
    rw [resF] at h
    cases h
    exact ⟨hs, fun x => ⟨.inl, fun h => h.elim id (fun h => absurd h.1 List.not_mem_nil)⟩⟩
  | y :: r, out, c, h, hs => by
    rw [resF] at h
    by_cases h1 : y = -t ∨ y ∈ out
    · rw [if_pos h1] at h
      obtain ⟨k1, k2⟩ := resF_spec t r out h hs
      refine ⟨k1, fun x => (k2 x).trans ⟨fun h => h.imp id (fun h => ⟨List.mem_cons_of_mem _ h.1, h.2⟩), fun h => ?_⟩⟩
      rcases h with h | ⟨h, hne⟩
      · exact .inl h
      · rcases List.mem_cons.1 h with rfl | h
        · exact .inl (h1.resolve_left hne)
        · exact .inr ⟨h, hne⟩
    · rw [if_neg h1] at h
      by_cases h2 : -y ∈ out
      · rw [if_pos h2] at h; cases h
      · rw [if_neg h2] at h
        have h3 : ¬ y = -t := fun e => h1 (.inl e)
        have h4 : y ∉ out := fun e => h1 (.inr e)
        obtain ⟨k1, k2⟩ := resF_spec t r _ h (putL_srt y hs (fun z hz e => by
          rcases atm_eq e with e | e
          · exact h4 (e ▸ hz)
          · exact h2 (e ▸ hz)))
        refine ⟨k1, fun x => (k2 x).trans ?_⟩
        rw [putL_mem]
        constructor
        · rintro ((h | rfl) | h)
          · exact .inl h
          · exact .inr ⟨List.mem_cons_self .., h3⟩
          · exact .inr ⟨List.mem_cons_of_mem _ h.1, h.2⟩
        · rintro (h | ⟨h, hne⟩)
          · exact .inl (.inl h)
          · rcases List.mem_cons.1 h with rfl | h
            · exact .inl (.inr rfl)
            · exact .inr ⟨h, hne⟩
theorem resF_none (t : Int) : ∀ (b out : Cls), resF t out b = none → ∃ x ∈ b, x ≠ -t ∧ ((-x) ∈ out ∨ (-x) ∈ b)
  | [], out, h => by rw [resF] at h; cases h
  | y :: r, out, h => by
    rw [resF] at h
    by_cases h1 : y = -t ∨ y ∈ out
    · rw [if_pos h1] at h
      obtain ⟨x, h2, h3, h4⟩ := resF_none t r out h
      exact ⟨x, List.mem_cons_of_mem _ h2, h3, h4.imp id (fun e => List.mem_cons_of_mem _ e)⟩
    · rw [if_neg h1] at h
      by_cases h2 : -y ∈ out
      · exact ⟨y, List.mem_cons_self .., fun e => h1 (.inl e), .inl h2⟩
      · rw [if_neg h2] at h
        obtain ⟨x, h5, h3, h4⟩ := resF_none t r _ h
        refine ⟨x, List.mem_cons_of_mem _ h5, h3, ?_⟩
        rcases h4 with h4 | h4
        · rcases putL_mem.1 h4 with h4 | h4
          · exact .inl h4
          · exact .inr (by rw [h4]; exact List.mem_cons_self ..)
        · exact .inr (List.mem_cons_of_mem _ h4)
theorem resB_parts {a b : Cls} {t : Int} {c : Cls} (h : resB a b t = some c) : 1 ≤ t ∧ t ∈ a ∧ -t ∈ b ∧ resF t (a.filter (fun x => decide (x ≠ t))) b = some c := by
  unfold resB at h
  by_cases h1 : t < 1
  · rw [if_pos h1] at h; cases h
  · rw [if_neg h1] at h
    by_cases h2 : t ∈ a
    · rw [if_pos h2] at h
      by_cases h3 : -t ∈ b
      · rw [if_pos h3] at h
        exact ⟨by omega, h2, h3, h⟩
      · rw [if_neg h3] at h; cases h
    · rw [if_neg h2] at h; cases h
theorem resB_spec {a b : Cls} {t : Int} {c : Cls} (h : resB a b t = some c) (ha : rightC a = true) (hb : rightC b = true) : rightC c = true ∧ ∀ x, x ∈ c ↔ (x ∈ a ∧ x ≠ t) ∨ (x ∈ b ∧ x ≠ -t) := by
  obtain ⟨ha1, ha2⟩ := right_iff.1 ha
  obtain ⟨hb1, hb2⟩ := right_iff.1 hb
  obtain ⟨_, _, _, h⟩ := resB_parts h
  obtain ⟨k1, k2⟩ := resF_spec t b _ h (List.Pairwise.filter _ ha2)
  have k3 : ∀ x, x ∈ c ↔ (x ∈ a ∧ x ≠ t) ∨ (x ∈ b ∧ x ≠ -t) := fun x => (k2 x).trans (by rw [List.mem_filter, decide_eq_true_eq])
  refine ⟨right_iff.2 ⟨fun x hx => ?_, k1⟩, k3⟩
  rcases (k3 x).1 hx with h | h
  · exact ha1 x h.1
  · exact hb1 x h.1
/-- .. there is one, unless another atom stands in both, both ways -/
theorem resB_some {a b : Cls} {t : Int} (ht : 1 ≤ t) (h1 : t ∈ a) (h2 : -t ∈ b) (ha : rightC a = true) (hb : rightC b = true) (h : ∀ x ∈ b, x ≠ -t → -x ∈ a → False) : ∃ c, resB a b t = some c := by
  cases hr : resB a b t with
  | some c => exact ⟨c, rfl⟩
  | none =>
    exfalso
    unfold resB at hr
    rw [if_neg (by omega), if_pos h1, if_pos h2] at hr
    obtain ⟨x, hx, hne, h3⟩ := resF_none t b _ hr
    rcases h3 with h3 | h3
    · exact h x hx hne (List.mem_filter.1 h3).1
    · obtain ⟨hb1, hb2⟩ := right_iff.1 hb
      have := srt_mem hb2 hx h3 (atm_neg x).symm
      have := (hb1 x hx).1
      omega

/-! ### the program's way: one after the other, sorted in the end -/
def resP (t : Int) : Cls → Cls → Option Cls
  | out, [] => some out
  | out, x :: r => if x = t ∨ x = -t ∨ x ∈ out then resP t out r else if -x ∈ out then none else resP t (out ++ [x]) r
theorem resP_app (t : Int) (b : Cls) : ∀ (a out : Cls), resP t out (a ++ b) = (resP t out a).bind (fun o => resP t o b)
  | [], out => by rw [resP]; rfl
  | x :: r, out => by
    rw [List.cons_append, resP, resP]
    by_cases h1 : x = t ∨ x = -t ∨ x ∈ out
    · rw [if_pos h1, if_pos h1]; exact resP_app t b r out
    · rw [if_neg h1, if_neg h1]
      by_cases h2 : -x ∈ out
      · rw [if_pos h2, if_pos h2]; rfl
      · rw [if_neg h2, if_neg h2]; exact resP_app t b r _
theorem resP_a (t : Int) : ∀ (a out : Cls), Srt a → (∀ x ∈ a, x ≠ 0 ∧ x ≠ -t) → (∀ y ∈ out, ∀ x ∈ a, atm y < atm x) → resP t out a = some (out ++ a.filter (fun x => decide (x ≠ t)))
  | [], out, _, _, _ => by rw [resP, List.filter_nil, List.append_nil]
  | x :: r, out, hs, h0, h => by
    have h1 := List.pairwise_cons.1 hs
    have hx := h0 x (List.mem_cons_self ..)
    have hr : ∀ y ∈ r, y ≠ 0 ∧ y ≠ -t := fun y hy => h0 y (List.mem_cons_of_mem _ hy)
    rw [resP]
    by_cases e : x = t
    · rw [if_pos (.inl e), resP_a t r out h1.2 hr (fun y hy z hz => h y hy z (List.mem_cons_of_mem _ hz)), List.filter_cons, if_neg (by simp [e])]
    · have hn : x ∉ out := fun hm => by have := h x hm x (List.mem_cons_self ..); omega
      have hn2 : -x ∉ out := fun hm => by have := h _ hm x (List.mem_cons_self ..); rw [atm_neg] at this; omega
      rw [if_neg (by rintro (h | h | h); exact e h; exact hx.2 h; exact hn h), if_neg hn2, resP_a t r _ h1.2 hr (fun y hy z hz => by
        rcases List.mem_append.1 hy with hy | hy
        · exact h y hy z (List.mem_cons_of_mem _ hz)
        · rw [List.mem_singleton.1 hy]; exact h1.1 z hz), List.filter_cons, if_pos (by simp [e]), List.append_assoc]
      rfl
/-- both ways answer alike, up to the order -/
def AlikeR : Option Cls → Option Cls → Prop
  | none, none => True
  | some c, some d => c.Perm d
  | _, _ => False
theorem resP_b (t : Int) : ∀ (b o o' : Cls), o.Perm o' → (∀ x ∈ b, x ≠ t) → AlikeR (resP t o b) (resF t o' b)
  | [], o, o', h, _ => by rw [resP, resF]; exact h
  | x :: r, o, o', h, hb => by
    have hx := hb x (List.mem_cons_self ..)
    have hr : ∀ y ∈ r, y ≠ t := fun y hy => hb y (List.mem_cons_of_mem _ hy)
    rw [resP, resF]
    by_cases h1 : x = -t ∨ x ∈ o'
    · rw [if_pos h1, if_pos (by
        rcases h1 with h1 | h1
        · exact .inr (.inl h1)
        · exact .inr (.inr (h.mem_iff.2 h1)))]
      exact resP_b t r o o' h hr
    · rw [if_neg h1, if_neg (by
        rintro (e | e | e)
        · exact hx e
        · exact h1 (.inl e)
        · exact h1 (.inr (h.mem_iff.1 e)))]
      by_cases h2 : -x ∈ o'
      · rw [if_pos h2, if_pos (h.mem_iff.2 h2)]; trivial
      · rw [if_neg h2, if_neg (fun e => h2 (h.mem_iff.1 e))]
        exact resP_b t r _ _ ((h.append_right [x]).trans (putL_perm x o').symm) hr
theorem resP_resB {a b : Cls} {t : Int} (ha : rightC a = true) (hb : rightC b = true) (ht : 1 ≤ t) (h1 : t ∈ a) (h2 : -t ∈ b) : AlikeR (resP t [] (a ++ b)) (resB a b t) := by
  obtain ⟨ha1, ha2⟩ := right_iff.1 ha
  obtain ⟨hb1, hb2⟩ := right_iff.1 hb
  have hna : ∀ x ∈ a, x ≠ 0 ∧ x ≠ -t := fun x hx => ⟨(ha1 x hx).1, fun e => by
    have := srt_mem ha2 hx h1 (by rw [e, atm_neg])
    omega⟩
  have hnb : ∀ x ∈ b, x ≠ t := fun x hx e => by
    have := srt_mem hb2 hx h2 (by rw [e, atm_neg])
    omega
  unfold resB
  rw [if_neg (by omega), if_pos h1, if_pos h2, resP_app, resP_a t a [] ha2 hna (fun y hy => absurd hy List.not_mem_nil), List.nil_append]
  exact resP_b t b _ _ (List.Perm.refl _) hnb
/-- a sorted list is known by what it holds -/
theorem srt_ext : ∀ {l m : Cls}, Srt l → m.Pairwise (fun x y => ¬ atm y < atm x) → m.Perm l → m = l
  | [], m, _, _, h => h.eq_nil
  | x :: r, [], _, _, h => absurd h.symm.eq_nil (by simp)
  | x :: r, y :: s, hl, hm, h => by
    have h1 := List.pairwise_cons.1 hl
    have h2 := List.pairwise_cons.1 hm
    have e : y = x := by
      have hy : y ∈ x :: r := h.mem_iff.1 (List.mem_cons_self ..)
      have hx : x ∈ y :: s := h.mem_iff.2 (List.mem_cons_self ..)
      rcases List.mem_cons.1 hy with e | hy
      · exact e
      · rcases List.mem_cons.1 hx with e | hx
        · exact e.symm
        · have g1 := h1.1 y hy
          have g2 := h2.1 x hx
          omega
    subst e
    rw [srt_ext h1.2 h2.2 (List.Perm.cons_inv h)]

/-! ### what holds -/
/-- a literal holds by values -/
def hlB (v : List Bool) (x : Int) : Bool := match v[x.natAbs]? with
  | some b => b == decide (0 < x)
  | none => false
def holdC (v : List Bool) (c : Cls) : Bool := c.any (hlB v)
def holdL (v : List Bool) (l : List Cls) : Bool := l.all (holdC v)
theorem hl_neg {v : List Bool} {x : Int} (h0 : x ≠ 0) (h : hlB v x = true) : hlB v (-x) = false := by
  unfold hlB at *
  rw [Int.natAbs_neg]
  cases hv : v[x.natAbs]? with
  | none => rfl
  | some b =>
    rw [hv] at h
    replace h : (b == decide (0 < x)) = true := h
    show (b == decide (0 < -x)) = false
    have e : decide (0 < -x) = !decide (0 < x) := by
      by_cases h1 : 0 < x
      · rw [decide_eq_true h1, decide_eq_false (by omega)]; rfl
      · rw [decide_eq_false h1, decide_eq_true (by omega)]; rfl
    rw [e, eq_of_beq h]
    cases decide (0 < x) <;> rfl
/-- the resolvent of clauses that hold holds -/
theorem resB_holds {a b : Cls} {t : Int} {c : Cls} {v : List Bool} (h : resB a b t = some c) (ha : rightC a = true) (hb : rightC b = true) (h1 : holdC v a = true) (h2 : holdC v b = true) : holdC v c = true := by
  obtain ⟨_, k⟩ := resB_spec h ha hb
  have ht := (resB_parts h).1
  obtain ⟨x, hx, hx2⟩ := List.any_eq_true.1 h1
  obtain ⟨y, hy, hy2⟩ := List.any_eq_true.1 h2
  refine List.any_eq_true.2 ?_
  by_cases e : x = t
  · subst e
    have hn := hl_neg (by omega) hx2
    refine ⟨y, (k y).2 (.inr ⟨hy, fun e => ?_⟩), hy2⟩
    rw [e, hn] at hy2
    exact absurd hy2 (by decide)
  · exact ⟨x, (k x).2 (.inl ⟨hx, e⟩), hx2⟩
end Go.Proofs.Ytggfjfmgclcnlaa.Z
namespace Go.Proofs.Ytggfjfmgclcnlaa.Z
set_option linter.unusedSimpArgs false
set_option linter.unusedVariables false

abbrev Stp := Int × Int × Int
/-- the clause that a step makes -/
def step1 (all : List Cls) (s : Stp) : Option Cls := if s.1 < 0 ∨ s.2.1 < 0 ∨ (all.length : Int) ≤ s.1 ∨ (all.length : Int) ≤ s.2.1 then none else resB (all.getD s.1.toNat []) (all.getD s.2.1.toNat []) s.2.2
def replF : List Cls → List Stp → Nat → Option (List Cls) × Nat
  | all, [], i => (some all, i)
  | all, s :: r, i => match step1 all s with
    | none => (none, i)
    | some c => replF (all ++ [c]) r (i + 1)
def replB (l : List Cls) (p : List Stp) : List Cls × Int × Int :=
  if checkL l ≠ 0 then ([], 0, checkL l) else if 20000 < p.length then ([], 0, 5) else match replF l p 0 with
    | (none, i) => ([], (i : Int), 271)
    | (some all, _) => (all.drop l.length, 0, 0)
/-- clauses that steps make of others -/
inductive Repl : List Cls → List Stp → List Cls → Prop where
  | nil (l) : Repl l [] l
  | cons {l s c p all} : step1 l s = some c → Repl (l ++ [c]) p all → Repl l (s :: p) all
theorem repl_iff : ∀ (p : List Stp) (l : List Cls) (i : Nat), (∃ all, replF l p i = (some all, i + p.length) ∧ Repl l p all) ∨ ∃ k, k < p.length ∧ replF l p i = (none, i + k) ∧ ∀ all, ¬ Repl l p all
  | [], l, i => .inl ⟨l, rfl, .nil l⟩
  | s :: r, l, i => by
    rw [replF]
    cases h : step1 l s with
    | none => exact .inr ⟨0, by simp, rfl, fun all ha => by
        cases ha with
        | cons h1 h2 => rw [h] at h1; cases h1⟩
    | some c =>
      rcases repl_iff r (l ++ [c]) (i + 1) with ⟨all, e, h2⟩ | ⟨k, hk, e, h2⟩
      · refine .inl ⟨all, ?_, .cons h h2⟩
        show replF (l ++ [c]) r (i + 1) = _
        rw [e, List.length_cons, Nat.add_assoc, Nat.add_comm 1]
      · refine .inr ⟨k + 1, by simpa using hk, ?_, fun all ha => ?_⟩
        · show replF (l ++ [c]) r (i + 1) = _
          rw [e, Nat.add_assoc, Nat.add_comm 1]
        · cases ha with
          | cons h1 h3 =>
            rw [h] at h1
            cases h1
            exact h2 _ h3
theorem Repl.inj {l : List Cls} {p : List Stp} {a : List Cls} (h : Repl l p a) : ∀ {b : List Cls}, Repl l p b → a = b := by
  induction h with
  | nil l => intro b hb; cases hb; rfl
  | cons h1 h2 ih =>
    intro b hb
    cases hb with
    | cons g1 g2 =>
      rw [h1] at g1
      cases g1
      exact ih g2
theorem Repl.len {l : List Cls} {p : List Stp} {all : List Cls} (h : Repl l p all) : all.length = l.length + p.length := by
  induction h with
  | nil l => rfl
  | cons h1 h2 ih => simp only [ih, List.length_append, List.length_cons, List.length_nil]; omega
theorem Repl.pre {l : List Cls} {p : List Stp} {all : List Cls} (h : Repl l p all) : l <+: all := by
  induction h with
  | nil l => exact List.prefix_refl _
  | cons h1 h2 ih => exact (List.prefix_append ..).trans ih
theorem Repl.app {l : List Cls} {p : List Stp} {all : List Cls} (h : Repl l p all) : ∀ {q : List Stp} {all' : List Cls}, Repl all q all' → Repl l (p ++ q) all' := by
  induction h with
  | nil l => intro q all' hq; exact hq
  | cons h1 h2 ih => intro q all' hq; exact .cons h1 (ih hq)
theorem Repl.snoc {l : List Cls} {p : List Stp} {all : List Cls} {s : Stp} {c : Cls} (h : Repl l p all) (hs : step1 all s = some c) : Repl l (p ++ [s]) (all ++ [c]) := h.app (.cons hs (.nil _))
theorem replB_ok {l : List Cls} {p : List Stp} (h0 : checkL l = 0) (hp : p.length ≤ 20000) {all : List Cls} (h : Repl l p all) : replB l p = (all.drop l.length, 0, 0) := by
  unfold replB
  rw [if_neg (fun e => e h0), if_neg (by omega)]
  rcases repl_iff p l 0 with ⟨a, e, h2⟩ | ⟨k, _, e, h2⟩
  · rw [e, h.inj h2]
  · exact absurd h (h2 _)
theorem replB_inv {l : List Cls} {p : List Stp} (h : (replB l p).2.2 = 0) : checkL l = 0 ∧ p.length ≤ 20000 ∧ ∃ all, Repl l p all ∧ replB l p = (all.drop l.length, 0, 0) ∧ l ++ (replB l p).1 = all := by
  have h' := h
  unfold replB at h
  by_cases h0 : checkL l = 0
  · rw [if_neg (fun e => e h0)] at h
    by_cases h1 : 20000 < p.length
    · rw [if_pos h1] at h; exact absurd h (by decide)
    · rw [if_neg h1] at h
      rcases repl_iff p l 0 with ⟨a, e, h2⟩ | ⟨k, _, e, h2⟩
      · have hr := replB_ok h0 (by omega) h2
        refine ⟨h0, by omega, a, h2, hr, ?_⟩
        rw [hr]
        obtain ⟨r, hr2⟩ := h2.pre
        show l ++ a.drop l.length = a
        rw [← hr2, List.drop_left]
      · rw [e] at h; exact absurd (show (271 : Int) = 0 from h) (by decide)
  · rw [if_pos h0] at h; exact absurd h h0
theorem step1_parts {all : List Cls} {s : Stp} {c : Cls} (h : step1 all s = some c) : ∃ a b : Nat, ∃ ha : a < all.length, ∃ hb : b < all.length, s.1 = (a : Int) ∧ s.2.1 = (b : Int) ∧ resB (all[a]'ha) (all[b]'hb) s.2.2 = some c := by
  unfold step1 at h
  by_cases h1 : s.1 < 0 ∨ s.2.1 < 0 ∨ (all.length : Int) ≤ s.1 ∨ (all.length : Int) ≤ s.2.1
  · rw [if_pos h1] at h; cases h
  · rw [if_neg h1] at h
    have ha : s.1.toNat < all.length := by omega
    have hb : s.2.1.toNat < all.length := by omega
    refine ⟨s.1.toNat, s.2.1.toNat, ha, hb, by omega, by omega, ?_⟩
    rw [List.getD_eq_getElem?_getD, List.getD_eq_getElem?_getD, List.getElem?_eq_getElem ha, List.getElem?_eq_getElem hb] at h
    exact h
theorem step1_of {all : List Cls} {a b : Nat} (ha : a < all.length) (hb : b < all.length) {t : Int} {c : Cls} (h : resB (all[a]'ha) (all[b]'hb) t = some c) : step1 all ((a : Int), (b : Int), t) = some c := by
  unfold step1
  rw [if_neg (by simp only; omega)]
  simp only [Int.toNat_natCast]
  rw [List.getD_eq_getElem?_getD, List.getD_eq_getElem?_getD, List.getElem?_eq_getElem ha, List.getElem?_eq_getElem hb]
  exact h
theorem step1_more {all more : List Cls} {s : Stp} {c : Cls} (h : step1 all s = some c) : step1 (all ++ more) s = some c := by
  obtain ⟨a, b, ha, hb, e1, e2, h2⟩ := step1_parts h
  obtain ⟨x, y, t⟩ := s
  simp only at e1 e2 h2
  subst e1; subst e2
  refine step1_of (by rw [List.length_append]; omega) (by rw [List.length_append]; omega) ?_
  rw [List.getElem_append_left ha, List.getElem_append_left hb]
  exact h2
/-- the clause of a step -/
theorem Repl.at_ {l : List Cls} {p : List Stp} {all : List Cls} (h : Repl l p all) : ∀ k s, p[k]? = some s → ∃ c, all[l.length + k]? = some c ∧ step1 (all.take (l.length + k)) s = some c := by
  induction h with
  | nil l => intro k s hk; simp at hk
  | @cons l s0 c0 p all h1 h2 ih =>
    intro k s hk
    obtain ⟨r, hr⟩ := h2.pre
    cases k with
    | zero =>
      simp only [List.getElem?_cons_zero, Option.some.injEq] at hk
      subst hk
      refine ⟨c0, ?_, ?_⟩
      · rw [← hr, List.append_assoc, Nat.add_zero, List.getElem?_append_right (Nat.le_refl _), Nat.sub_self]; rfl
      · rw [← hr, List.append_assoc, Nat.add_zero, List.take_left]; exact h1
    | succ k =>
      rw [List.getElem?_cons_succ] at hk
      obtain ⟨c, e1, e2⟩ := ih k s hk
      rw [List.length_append, List.length_singleton] at e1 e2
      refine ⟨c, ?_, ?_⟩
      · rw [← e1]; congr 1; omega
      · rw [← e2]; congr 2; omega
/-- steps whose clauses are known one by one make them -/
theorem repl_of : ∀ (p : List Stp) (l made : List Cls), made.length = p.length → (∀ k s, p[k]? = some s → ∃ c, made[k]? = some c ∧ step1 (l ++ made.take k) s = some c) → Repl l p (l ++ made)
  | [], l, made, hl, _ => by
    obtain rfl : made = [] := List.eq_nil_of_length_eq_zero (by simpa using hl)
    rw [List.append_nil]
    exact .nil l
  | s :: r, l, [], hl, _ => by simp at hl
  | s :: r, l, c :: m, hl, h => by
    obtain ⟨c', e, h1⟩ := h 0 s rfl
    simp only [List.getElem?_cons_zero, Option.some.injEq] at e
    subst e
    rw [List.take_zero, List.append_nil] at h1
    refine .cons h1 ?_
    have := repl_of r (l ++ [c]) m (by simpa using hl) (fun k q hk => by
      obtain ⟨c2, e2, h2⟩ := h (k + 1) q (by rw [List.getElem?_cons_succ]; exact hk)
      rw [List.getElem?_cons_succ] at e2
      rw [List.take_succ_cons] at h2
      exact ⟨c2, e2, by rw [List.append_assoc]; exact h2⟩)
    rwa [List.append_assoc] at this
theorem Repl.right {l : List Cls} {p : List Stp} {all : List Cls} (h : Repl l p all) : (∀ c ∈ l, rightC c = true) → ∀ c ∈ all, rightC c = true := by
  induction h with
  | nil l => exact fun h => h
  | @cons l s c p all h1 h2 ih =>
    intro h
    refine ih (fun d hd => ?_)
    rcases List.mem_append.1 hd with hd | hd
    · exact h d hd
    · rw [List.mem_singleton.1 hd]
      obtain ⟨a, b, ha, hb, _, _, hr⟩ := step1_parts h1
      exact (resB_spec hr (h _ (List.getElem_mem ha)) (h _ (List.getElem_mem hb))).1
/-- clauses that hold together make all clauses of a proof hold -/
theorem Repl.holds {l : List Cls} {p : List Stp} {all : List Cls} {v : List Bool} (h : Repl l p all) : (∀ c ∈ l, rightC c = true) → holdL v l = true → holdL v all = true := by
  induction h with
  | nil l => exact fun _ h => h
  | @cons l s c p all h1 h2 ih =>
    intro hr hv
    obtain ⟨a, b, ha, hb, _, _, hc⟩ := step1_parts h1
    have ra := hr _ (List.getElem_mem ha)
    have rb := hr _ (List.getElem_mem hb)
    refine ih (fun d hd => ?_) ?_
    · rcases List.mem_append.1 hd with hd | hd
      · exact hr d hd
      · rw [List.mem_singleton.1 hd]; exact (resB_spec hc ra rb).1
    · unfold holdL at *
      rw [List.all_append, hv, List.all_cons, List.all_nil, resB_holds hc ra rb (List.all_eq_true.1 hv _ (List.getElem_mem ha)) (List.all_eq_true.1 hv _ (List.getElem_mem hb))]
      rfl

/-! ### what the empty clause needs -/
def firstE (all : List Cls) : Option Nat := all.findIdx? (fun c => c.isEmpty)
/-- the steps nl + k - 1, .., nl, backwards: what a needed one needs -/
def markB (p : List Stp) (nl : Nat) : Nat → List Bool → List Bool
  | 0, need => need
  | k + 1, need => markB p nl k (if need.getD (nl + k) false then match p[k]? with
      | some s => (need.set s.1.toNat true).set s.2.1.toNat true
      | none => need else need)
def needB (l : List Cls) (p : List Stp) : List Bool × Int :=
  if (replB l p).2.2 ≠ 0 then ([], (replB l p).2.2) else match firstE (l ++ (replB l p).1) with
    | none => ([], 271)
    | some f => (markB p l.length (f + 1 - l.length) ((List.replicate (l.length + p.length) false).set f true), 0)
/-- the needed steps, with their new indices; ix: the new index of each clause so far; u: that of a clause that is not needed -/
def trimF (u : Nat → Nat → Int) (nl : Nat) : List Stp → List Bool → List Int → List Stp → List Stp
  | [], _, _, out => out
  | _ :: _, [], _, out => out
  | s :: r, n :: ns, ix, out => if n then trimF u nl r ns (ix ++ [((nl + out.length : Nat) : Int)]) (out ++ [(ix.getD s.1.toNat 0, ix.getD s.2.1.toNat 0, s.2.2)]) else trimF u nl r ns (ix ++ [u ix.length out.length]) out
def idL (n : Nat) : List Int := (List.range n).map (fun i : Nat => (i : Int))
def trimB (l : List Cls) (p : List Stp) : List Stp × Int :=
  if (needB l p).2 ≠ 0 then ([], (needB l p).2) else (trimF (fun a _ => (a : Int)) l.length p ((needB l p).1.drop l.length) (idL l.length) [], 0)

theorem markB_len (p : List Stp) (nl : Nat) : ∀ (k : Nat) (need : List Bool), (markB p nl k need).length = need.length
  | 0, _ => rfl
  | k + 1, need => by
    rw [markB, markB_len p nl k]
    cases need.getD (nl + k) false with
    | false => rfl
    | true =>
      cases p[k]? with
      | none => rfl
      | some s => rw [if_pos rfl]; show ((need.set _ true).set _ true).length = _; rw [List.length_set, List.length_set]
/-- what stays, and what a mark says -/
structure Marked (l : List Cls) (p : List Stp) (f : Nat) (k : Nat) (need : List Bool) : Prop where
  len : need.length = l.length + p.length
  first : need[f]? = some true
  top : ∀ i, f < i → need[i]? ≠ some true
  /-- what a needed step needs is needed -/
  down : ∀ j s, p[j]? = some s → k ≤ j → need[l.length + j]? = some true → need[s.1.toNat]? = some true ∧ need[s.2.1.toNat]? = some true
  /-- what is needed is needed by one above -/
  up : ∀ i, need[i]? = some true → i = f ∨ ∃ j s, p[j]? = some s ∧ k ≤ j ∧ need[l.length + j]? = some true ∧ (s.1 = (i : Int) ∨ s.2.1 = (i : Int))
theorem getD_true {l : List Bool} {i : Nat} : l.getD i false = true ↔ l[i]? = some true := by
  rw [List.getD_eq_getElem?_getD]
  cases l[i]? with
  | none => simp
  | some b => cases b <;> simp
theorem set_true {l : List Bool} {i j : Nat} (h : l[j]? = some true) : (l.set i true)[j]? = some true := by
  rw [List.getElem?_set]
  by_cases e : i = j
  · subst e
    have := (List.getElem?_eq_some_iff.1 h).1
    rw [if_pos rfl, if_pos this]
  · rw [if_neg e]; exact h
theorem set_true_inv {l : List Bool} {i j : Nat} (h : (l.set i true)[j]? = some true) : j = i ∨ l[j]? = some true := by
  rw [List.getElem?_set] at h
  by_cases e : i = j
  · exact .inl e.symm
  · rw [if_neg e] at h; exact .inr h
theorem markB_spec {l : List Cls} {p : List Stp} {all : List Cls} (hR : Repl l p all) {f : Nat} : ∀ (k : Nat) (need : List Bool), l.length + k ≤ f + 1 ∨ k = 0 → Marked l p f k need → Marked l p f 0 (markB p l.length k need)
  | 0, need, _, h => h
  | k + 1, need, hk, h => by
    have hkf : l.length + k ≤ f := by omega
    rw [markB]
    refine markB_spec hR k _ (by omega) ?_
    cases hn : need.getD (l.length + k) false with
    | false =>
      rw [if_neg (by decide)]
      have hn2 : ¬ need[l.length + k]? = some true := fun e => by rw [getD_true.2 e] at hn; exact absurd hn (by decide)
      refine ⟨h.len, h.first, h.top, fun j s hj hkj hm => ?_, fun i hi => (h.up i hi).imp id (fun ⟨j, s, h1, h2, h3⟩ => ⟨j, s, h1, by omega, h3⟩)⟩
      by_cases e : j = k
      · subst e; exact absurd hm hn2
      · exact h.down j s hj (by omega) hm
    | true =>
      rw [if_pos rfl]
      have hn2 := getD_true.1 hn
      have hkp : k < p.length := by
        have := (List.getElem?_eq_some_iff.1 hn2).1
        rw [h.len] at this
        omega
      rw [List.getElem?_eq_getElem hkp]
      obtain ⟨c, hc, hs⟩ := hR.at_ k _ (List.getElem?_eq_getElem hkp)
      generalize hse : p[k]'hkp = s at hs
      have hps : p[k]? = some s := by rw [List.getElem?_eq_getElem hkp, hse]
      obtain ⟨a, b, ha, hb, e1, e2, _⟩ := step1_parts hs
      rw [List.length_take] at ha hb
      have ea : s.1.toNat = a := by omega
      have eb : s.2.1.toNat = b := by omega
      show Marked l p f k ((need.set s.1.toNat true).set s.2.1.toNat true)
      rw [ea, eb]
      have hal : a < (need.set a true).length := by rw [List.length_set, h.len]; omega
      have hbl : b < (need.set a true).length := by rw [List.length_set, h.len]; omega
      have pa : ((need.set a true).set b true)[a]? = some true := set_true (by rw [List.getElem?_set, if_pos rfl, if_pos (by rw [List.length_set] at hal; exact hal)])
      have pb : ((need.set a true).set b true)[b]? = some true := by rw [List.getElem?_set, if_pos rfl, if_pos hbl]
      have keep : ∀ {j : Nat}, need[j]? = some true → ((need.set a true).set b true)[j]? = some true := fun h => set_true (set_true h)
      have inv : ∀ {j : Nat}, ((need.set a true).set b true)[j]? = some true → j = a ∨ j = b ∨ need[j]? = some true := fun h => by
        rcases set_true_inv h with h | h
        · exact .inr (.inl h)
        · rcases set_true_inv h with h | h
          · exact .inl h
          · exact .inr (.inr h)
      refine ⟨by rw [List.length_set, List.length_set]; exact h.len, keep h.first, fun i hi hm => ?_, fun j s' hj hkj hm => ?_, fun i hi => ?_⟩
      · rcases inv hm with e | e | e
        · omega
        · omega
        · exact h.top i hi e
      · by_cases e : j = k
        · subst e
          rw [hps] at hj
          cases hj
          rw [ea, eb]
          exact ⟨pa, pb⟩
        · rcases inv hm with e3 | e3 | e3
          · omega
          · omega
          · obtain ⟨q1, q2⟩ := h.down j s' hj (by omega) e3
            exact ⟨keep q1, keep q2⟩
      · rcases inv hi with e | e | e
        · exact .inr ⟨k, s, hps, Nat.le_refl _, keep hn2, .inl (by rw [e1, e])⟩
        · exact .inr ⟨k, s, hps, Nat.le_refl _, keep hn2, .inr (by rw [e2, e])⟩
        · exact (h.up i e).imp id (fun ⟨j, s', h1, h2, h3, h4⟩ => ⟨j, s', h1, by omega, keep h3, h4⟩)
theorem firstE_some {all : List Cls} {f : Nat} (h : firstE all = some f) : all[f]? = some [] ∧ ∀ j, j < f → all[j]? ≠ some [] := by
  unfold firstE at h
  rw [List.findIdx?_eq_some_iff_getElem] at h
  obtain ⟨hf, h1, h2⟩ := h
  refine ⟨by rw [List.getElem?_eq_getElem hf, List.isEmpty_iff.1 h1], fun j hj e => ?_⟩
  have := h2 j hj
  rw [(List.getElem?_eq_some_iff.1 e).2] at this
  exact absurd this (by decide)
theorem firstE_none {all : List Cls} (h : firstE all = none) : ∀ c ∈ all, c ≠ [] := by
  unfold firstE at h
  rw [List.findIdx?_eq_none_iff] at h
  intro c hc e
  have := h c hc
  rw [e] at this
  exact absurd this (by decide)
theorem firstE_of {all : List Cls} {f : Nat} (h1 : all[f]? = some []) (h2 : ∀ j, j < f → all[j]? ≠ some []) : firstE all = some f := by
  cases h : firstE all with
  | none => exact absurd rfl (firstE_none h _ (List.mem_of_getElem? h1))
  | some g =>
    obtain ⟨k1, k2⟩ := firstE_some h
    by_cases a : g < f
    · exact absurd k1 (h2 g a)
    · by_cases b : f < g
      · exact absurd h1 (k2 f b)
      · congr 1; omega
theorem needB_ok {l : List Cls} {p : List Stp} (h : (needB l p).2 = 0) : ∃ all f, Repl l p all ∧ checkL l = 0 ∧ p.length ≤ 20000 ∧ firstE all = some f ∧ needB l p = (markB p l.length (f + 1 - l.length) ((List.replicate (l.length + p.length) false).set f true), 0) ∧ Marked l p f 0 (needB l p).1 := by
  have h' := h
  unfold needB at h
  by_cases h1 : (replB l p).2.2 = 0
  · obtain ⟨h0, hp, all, hR, hb, ha⟩ := replB_inv h1
    rw [if_neg (fun e => e h1), ha] at h
    cases hf : firstE all with
    | none => rw [hf] at h; exact absurd (show (271 : Int) = 0 from h) (by decide)
    | some f =>
      have e : needB l p = (markB p l.length (f + 1 - l.length) ((List.replicate (l.length + p.length) false).set f true), 0) := by
        unfold needB
        rw [if_neg (fun e => e h1), ha, hf]
      have hfl : f < l.length + p.length := by rw [← hR.len]; exact (List.getElem?_eq_some_iff.1 (firstE_some hf).1).1
      refine ⟨all, f, hR, h0, hp, hf, e, ?_⟩
      rw [e]
      refine markB_spec hR _ _ (by omega) ⟨by rw [List.length_set, List.length_replicate], by rw [List.getElem?_set, if_pos rfl, if_pos (by rw [List.length_replicate]; exact hfl)], fun i hi hm => ?_, fun j s hj hkj hm => ?_, fun i hi => ?_⟩
      · rcases set_true_inv hm with e | e
        · omega
        · rw [List.getElem?_replicate] at e; split at e <;> simp at e
      · rcases set_true_inv hm with e | e
        · omega
        · rw [List.getElem?_replicate] at e; split at e <;> simp at e
      · rcases set_true_inv hi with e | e
        · exact .inl e
        · rw [List.getElem?_replicate] at e; split at e <;> simp at e
  · rw [if_pos h1] at h; exact absurd h h1
end Go.Proofs.Ytggfjfmgclcnlaa.Z
namespace Go.Proofs.Ytggfjfmgclcnlaa.Z
set_option linter.unusedSimpArgs false
set_option linter.unusedVariables false

/-- those with a mark -/
def sel {α : Type} : List Bool → List α → List α
  | b :: bs, x :: xs => if b then x :: sel bs xs else sel bs xs
  | _, _ => []
def cnt (nd : List Bool) (j : Nat) : Nat := (nd.take j).countP id
theorem sel_nil {α : Type} (bs : List Bool) : sel bs ([] : List α) = [] := by cases bs <;> rfl
theorem sel_nil2 {α : Type} (xs : List α) : sel [] xs = [] := by cases xs <;> rfl
theorem sel_len {α : Type} : ∀ (bs : List Bool) (xs : List α), (sel bs xs).length ≤ xs.length
  | [], _ => Nat.zero_le _
  | _ :: _, [] => Nat.zero_le _
  | b :: bs, x :: xs => by
    have := sel_len bs xs
    rw [sel]
    cases b with
    | true => rw [if_pos rfl, List.length_cons, List.length_cons]; omega
    | false => rw [if_neg (by decide), List.length_cons]; omega
theorem sel_len2 {α β : Type} : ∀ (bs : List Bool) (xs : List α) (ys : List β), xs.length = ys.length → (sel bs xs).length = (sel bs ys).length
  | [], _, _, _ => rfl
  | _ :: _, [], [], _ => rfl
  | _ :: _, [], _ :: _, h => by simp at h
  | _ :: _, _ :: _, [], h => by simp at h
  | b :: bs, x :: xs, y :: ys, h => by
    have := sel_len2 bs xs ys (by simpa using h)
    rw [sel, sel]
    cases b with
    | true => rw [if_pos rfl, if_pos rfl, List.length_cons, List.length_cons, this]
    | false => rw [if_neg (by decide), if_neg (by decide), this]
theorem cnt_zero (nd : List Bool) : cnt nd 0 = 0 := rfl
theorem cnt_cons (b : Bool) (nd : List Bool) (j : Nat) : cnt (b :: nd) (j + 1) = cnt nd j + (if b then 1 else 0) := by
  unfold cnt
  rw [List.take_succ_cons, List.countP_cons]
  rfl
theorem cnt_succ : ∀ (nd : List Bool) (j : Nat), cnt nd (j + 1) = cnt nd j + (if nd[j]? = some true then 1 else 0)
  | [], j => by simp [cnt]
  | b :: nd, 0 => by rw [cnt_cons, cnt_zero, cnt_zero]; cases b <;> simp
  | b :: nd, j + 1 => by rw [cnt_cons, cnt_succ nd j, cnt_cons, List.getElem?_cons_succ]; omega
theorem cnt_mono (nd : List Bool) {i j : Nat} (h : i ≤ j) : cnt nd i ≤ cnt nd j := by
  induction j with
  | zero => obtain rfl : i = 0 := by omega
            exact Nat.le_refl _
  | succ j ih =>
    by_cases e : i = j + 1
    · rw [e]; exact Nat.le_refl _
    · have := ih (by omega)
      rw [cnt_succ]
      omega
theorem cnt_lt (nd : List Bool) {i j : Nat} (h : i < j) (hi : nd[i]? = some true) : cnt nd i < cnt nd j := by
  have h1 := cnt_mono nd (show i + 1 ≤ j by omega)
  rw [cnt_succ, if_pos hi] at h1
  omega
theorem sel_get {α : Type} : ∀ (nd : List Bool) (xs : List α) (j : Nat) (x : α), nd[j]? = some true → xs[j]? = some x → (sel nd xs)[cnt nd j]? = some x
  | [], _, _, _, h, _ => by simp at h
  | _ :: _, [], _, _, _, h => by simp at h
  | b :: nd, y :: xs, 0, x, h, h2 => by
    simp only [List.getElem?_cons_zero, Option.some.injEq] at h h2
    subst h; subst h2
    rw [sel, if_pos rfl, cnt_zero]
    rfl
  | b :: nd, y :: xs, j + 1, x, h, h2 => by
    rw [List.getElem?_cons_succ] at h h2
    have := sel_get nd xs j x h h2
    rw [sel, cnt_cons]
    cases b with
    | true => rw [if_pos rfl, if_pos rfl, List.getElem?_cons_succ]; exact this
    | false => rw [if_neg (by decide), if_neg (by decide), Nat.add_zero]; exact this
theorem sel_inv {α : Type} : ∀ (nd : List Bool) (xs : List α) (k : Nat) (x : α), (sel nd xs)[k]? = some x → ∃ j, nd[j]? = some true ∧ xs[j]? = some x ∧ cnt nd j = k
  | [], _, k, x, h => by simp [sel] at h
  | _ :: _, [], k, x, h => by simp [sel] at h
  | b :: nd, y :: xs, k, x, h => by
    rw [sel] at h
    cases b with
    | true =>
      rw [if_pos rfl] at h
      cases k with
      | zero => exact ⟨0, rfl, h, rfl⟩
      | succ k =>
        rw [List.getElem?_cons_succ] at h
        obtain ⟨j, h1, h2, h3⟩ := sel_inv nd xs k x h
        exact ⟨j + 1, h1, h2, by rw [cnt_cons, h3]; rfl⟩
    | false =>
      rw [if_neg (by decide)] at h
      obtain ⟨j, h1, h2, h3⟩ := sel_inv nd xs k x h
      exact ⟨j + 1, h1, h2, by rw [cnt_cons, h3]; rfl⟩
/-- a clause's new index -/
def fI (nl : Nat) (nd : List Bool) (i : Nat) : Nat := if i < nl then i else nl + cnt nd (i - nl)
def ren (nl : Nat) (nd : List Bool) (s : Stp) : Stp := ((fI nl nd s.1.toNat : Int), (fI nl nd s.2.1.toNat : Int), s.2.2)
/-- a needed index -/
def Nd (nl : Nat) (nd : List Bool) (i : Nat) : Prop := i < nl ∨ nd[i - nl]? = some true
theorem trimF_sel (u : Nat → Nat → Int) (nl : Nat) (nd0 : List Bool) : ∀ (p : List Stp) (nd : List Bool) (j : Nat) (ix : List Int) (out : List Stp), nd0.drop j = nd → ix.length = nl + j → out.length = cnt nd0 j →
    (∀ i, i < nl + j → Nd nl nd0 i → ix[i]? = some (fI nl nd0 i : Int)) →
    (∀ k s, p[k]? = some s → nd[k]? = some true → s.1.toNat < nl + j + k ∧ s.2.1.toNat < nl + j + k ∧ Nd nl nd0 s.1.toNat ∧ Nd nl nd0 s.2.1.toNat) →
    trimF u nl p nd ix out = out ++ (sel nd p).map (ren nl nd0)
  | [], nd, j, ix, out, _, _, _, _, _ => by rw [trimF, sel_nil, List.map_nil, List.append_nil]
  | s :: r, [], j, ix, out, _, _, _, _, _ => by rw [trimF, sel_nil2, List.map_nil, List.append_nil]
  | s :: r, n :: ns, j, ix, out, hd, hix, hout, hI, hs => by
    have hn : nd0[j]? = some n := by
      have := congrArg (fun l : List Bool => l[0]?) hd
      simp only [List.getElem?_drop, Nat.add_zero, List.getElem?_cons_zero] at this
      exact this
    have hd2 : nd0.drop (j + 1) = ns := by
      have := congrArg List.tail hd
      rw [List.tail_drop] at this
      exact this
    have hs2 : ∀ k s, r[k]? = some s → ns[k]? = some true → s.1.toNat < nl + (j + 1) + k ∧ s.2.1.toNat < nl + (j + 1) + k ∧ Nd nl nd0 s.1.toNat ∧ Nd nl nd0 s.2.1.toNat := fun k s' h1 h2 => by
      obtain ⟨a, b, c⟩ := hs (k + 1) s' h1 h2
      exact ⟨by omega, by omega, c⟩
    rw [trimF, sel]
    cases n with
    | true =>
      rw [if_pos rfl, if_pos rfl]
      obtain ⟨a, b, c, d⟩ := hs 0 s rfl rfl
      rw [trimF_sel u nl nd0 r ns (j + 1) _ _ hd2 (by rw [List.length_append, List.length_singleton]; omega) (by rw [List.length_append, List.length_singleton, cnt_succ, if_pos hn, hout]) (fun i hi hnd => ?_) hs2]
      · rw [List.map_cons, List.append_assoc]
        congr 1
        show _ = ren nl nd0 s :: _
        rw [List.singleton_append]
        congr 1
        unfold ren
        rw [List.getD_eq_getElem?_getD, List.getD_eq_getElem?_getD, hI _ (by omega) c, hI _ (by omega) d]
        rfl
      · by_cases e : i < nl + j
        · rw [List.getElem?_append_left (by omega)]; exact hI i e hnd
        · obtain rfl : i = nl + j := by omega
          rw [List.getElem?_append_right (by omega), hix, Nat.sub_self]
          unfold fI
          rw [if_neg (by omega), Nat.add_sub_cancel_left, hout]
          rfl
    | false =>
      rw [if_neg (by decide), if_neg (by decide)]
      rw [trimF_sel u nl nd0 r ns (j + 1) _ _ hd2 (by rw [List.length_append, List.length_singleton]; omega) (by rw [cnt_succ, if_neg (by rw [hn]; simp), Nat.add_zero]; exact hout) (fun i hi hnd => ?_) hs2]
      by_cases e : i < nl + j
      · rw [List.getElem?_append_left (by omega)]; exact hI i e hnd
      · obtain rfl : i = nl + j := by omega
        rcases hnd with hnd | hnd
        · omega
        · rw [Nat.add_sub_cancel_left, hn] at hnd; cases hnd
theorem idL_len (n : Nat) : (idL n).length = n := by simp [idL]
theorem idL_get {n i : Nat} (h : i < n) : (idL n)[i]? = some (i : Int) := by simp [idL, h]

section
variable {l : List Cls} {p : List Stp} {all : List Cls} {f : Nat} {need : List Bool}
/-- the steps of a needed one -/
theorem kids (hR : Repl l p all) {k : Nat} {s : Stp} (hk : p[k]? = some s) : ∃ a b : Nat, s.1 = (a : Int) ∧ s.2.1 = (b : Int) ∧ a < l.length + k ∧ b < l.length + k ∧ ∃ c ca cb, all[l.length + k]? = some c ∧ all[a]? = some ca ∧ all[b]? = some cb ∧ resB ca cb s.2.2 = some c := by
  obtain ⟨c, hc, hs⟩ := hR.at_ k s hk
  obtain ⟨a, b, ha, hb, e1, e2, h⟩ := step1_parts hs
  rw [List.length_take] at ha hb
  refine ⟨a, b, e1, e2, by omega, by omega, c, _, _, hc, List.getElem?_eq_getElem (by omega), List.getElem?_eq_getElem (by omega), ?_⟩
  rw [List.getElem_take, List.getElem_take] at h
  exact h
theorem Marked.nd (h : Marked l p f 0 need) {i : Nat} (hi : need[i]? = some true) : Nd l.length (need.drop l.length) i := by
  by_cases e : i < l.length
  · exact .inl e
  · refine .inr ?_
    rw [List.getElem?_drop, show l.length + (i - l.length) = i by omega]
    exact hi
theorem Marked.steps (h : Marked l p f 0 need) (hR : Repl l p all) : ∀ k s, p[k]? = some s → (need.drop l.length)[k]? = some true → s.1.toNat < l.length + 0 + k ∧ s.2.1.toNat < l.length + 0 + k ∧ Nd l.length (need.drop l.length) s.1.toNat ∧ Nd l.length (need.drop l.length) s.2.1.toNat := by
  intro k s hk hn
  rw [List.getElem?_drop] at hn
  obtain ⟨a, b, e1, e2, ha, hb, _⟩ := kids hR hk
  obtain ⟨h1, h2⟩ := h.down k s hk (Nat.zero_le _) hn
  exact ⟨by omega, by omega, h.nd h1, h.nd h2⟩
theorem trim_sel (h : Marked l p f 0 need) (hR : Repl l p all) (u : Nat → Nat → Int) : trimF u l.length p (need.drop l.length) (idL l.length) [] = (sel (need.drop l.length) p).map (ren l.length (need.drop l.length)) := by
  rw [trimF_sel u l.length (need.drop l.length) p (need.drop l.length) 0 (idL l.length) [] rfl (idL_len _) rfl (fun i hi _ => by
    rw [idL_get (by omega)]
    unfold fI
    rw [if_pos (by omega)]) (h.steps hR)]
  rfl
theorem fI_lt {nl : Nat} {nd : List Bool} {i k : Nat} (hi : i < nl + k) (hn : Nd nl nd i) : fI nl nd i < nl + cnt nd k := by
  unfold fI
  by_cases e : i < nl
  · rw [if_pos e]; omega
  · rw [if_neg e]
    rcases hn with hn | hn
    · exact absurd hn e
    · have := cnt_lt nd (show i - nl < k by omega) hn
      omega
theorem fI_get (hR : Repl l p all) {nd : List Bool} {i k : Nat} {c : Cls} (hi : i < l.length + k) (hn : Nd l.length nd i) (hc : all[i]? = some c) : (l ++ (sel nd (all.drop l.length)).take (cnt nd k))[fI l.length nd i]? = some c := by
  have hlt := fI_lt hi hn
  unfold fI at *
  by_cases e : i < l.length
  · rw [if_pos e] at *
    rw [List.getElem?_append_left e, ← hc]
    obtain ⟨r, hr⟩ := hR.pre
    rw [← hr, List.getElem?_append_left e]
  · rw [if_neg e] at *
    rcases hn with hn | hn
    · exact absurd hn e
    · rw [List.getElem?_append_right (by omega), Nat.add_sub_cancel_left, List.getElem?_take, if_pos (by omega)]
      refine sel_get nd _ _ c hn ?_
      rw [List.getElem?_drop, show l.length + (i - l.length) = i by omega]
      exact hc
/-- the trimmed proof is one -/
theorem trim_repl (h : Marked l p f 0 need) (hR : Repl l p all) : Repl l ((sel (need.drop l.length) p).map (ren l.length (need.drop l.length))) (l ++ sel (need.drop l.length) (all.drop l.length)) := by
  have hl : p.length = (all.drop l.length).length := by rw [List.length_drop, hR.len]; omega
  refine repl_of _ _ _ (by rw [List.length_map, sel_len2 _ _ _ hl]) (fun k s hk => ?_)
  rw [List.getElem?_map] at hk
  cases hs : (sel (need.drop l.length) p)[k]? with
  | none => rw [hs] at hk; cases hk
  | some s0 =>
    rw [hs] at hk
    simp only [Option.map_some, Option.some.injEq] at hk
    subst hk
    obtain ⟨j, hj, hpj, hcj⟩ := sel_inv _ _ _ _ hs
    obtain ⟨a, b, e1, e2, ha, hb, c, ca, cb, hc, hca, hcb, hres⟩ := kids hR hpj
    obtain ⟨_, _, n1, n2⟩ := h.steps hR j s0 hpj hj
    rw [e1, Int.toNat_natCast] at n1
    rw [e2, Int.toNat_natCast] at n2
    refine ⟨c, ?_, ?_⟩
    · rw [← hcj]
      refine sel_get _ _ _ c hj ?_
      rw [List.getElem?_drop]
      exact hc
    · rw [← hcj]
      have ga := fI_get hR ha n1 hca
      have gb := fI_get hR hb n2 hcb
      obtain ⟨la, ea⟩ := List.getElem?_eq_some_iff.1 ga
      obtain ⟨lb, eb⟩ := List.getElem?_eq_some_iff.1 gb
      unfold ren
      rw [e1, e2, Int.toNat_natCast, Int.toNat_natCast]
      exact step1_of la lb (by rw [ea, eb]; exact hres)
theorem cnt_all (h : Marked l p f 0 need) {j : Nat} (hj : f < l.length + j) : ∀ m, cnt (need.drop l.length) (j + m) = cnt (need.drop l.length) j
  | 0 => rfl
  | m + 1 => by
    have hn : ¬ (need.drop l.length)[j + m]? = some true := fun e => by
      rw [List.getElem?_drop] at e
      exact h.top _ (by omega) e
    rw [← Nat.add_assoc, cnt_succ, cnt_all h hj m, if_neg hn, Nat.add_zero]
theorem cnt_sel {α : Type} : ∀ (nd : List Bool) (xs : List α), nd.length = xs.length → (sel nd xs).length = cnt nd nd.length
  | [], [], _ => rfl
  | [], _ :: _, h => by simp at h
  | _ :: _, [], h => by simp at h
  | b :: nd, x :: xs, h => by
    have := cnt_sel nd xs (by simpa using h)
    rw [sel, List.length_cons, cnt_cons]
    cases b with
    | true => rw [if_pos rfl, if_pos rfl, List.length_cons, this]
    | false => rw [if_neg (by decide), if_neg (by decide), this]; rfl
theorem Marked.nd_len (h : Marked l p f 0 need) : (need.drop l.length).length = p.length := by rw [List.length_drop, h.len]; omega
/-- where the first empty clause lies then, and that nothing stands behind it -/
theorem trim_first (h : Marked l p f 0 need) (hR : Repl l p all) (hf : firstE all = some f) :
    firstE (l ++ sel (need.drop l.length) (all.drop l.length)) = some (fI l.length (need.drop l.length) f) ∧ (l.length ≤ f → (sel (need.drop l.length) p).length = cnt (need.drop l.length) (f - l.length) + 1) ∧ (f < l.length → sel (need.drop l.length) p = []) := by
  obtain ⟨f1, f2⟩ := firstE_some hf
  have hlow : f < l.length → ∀ j, (need.drop l.length)[j]? ≠ some true := fun hfl j e => by
    rw [List.getElem?_drop] at e
    exact h.top _ (by omega) e
  refine ⟨firstE_of ?_ (fun i hi e => ?_), fun hfl => ?_, fun hfl => ?_⟩
  · have hfa : f < l.length + p.length := by rw [← hR.len]; exact (List.getElem?_eq_some_iff.1 f1).1
    have := fI_get hR (nd := need.drop l.length) (k := p.length) hfa (h.nd h.first) f1
    have hl : p.length = (all.drop l.length).length := by rw [List.length_drop, hR.len]; omega
    have hn := h.nd_len
    rw [List.take_of_length_le (by
      rw [← sel_len2 _ _ _ hl, cnt_sel _ _ hn, hn]
      exact Nat.le_refl _)] at this
    exact this
  · by_cases hil : i < l.length
    · rw [List.getElem?_append_left hil] at e
      obtain ⟨r, hr⟩ := hR.pre
      have hif : i < f := by
        unfold fI at hi
        by_cases hfl : f < l.length
        · rw [if_pos hfl] at hi; exact hi
        · omega
      exact f2 i hif (by rw [← hr, List.getElem?_append_left hil]; exact e)
    · rw [List.getElem?_append_right (by omega)] at e
      obtain ⟨j, hj, hpj, hcj⟩ := sel_inv _ _ _ _ e
      rw [List.getElem?_drop] at hpj
      by_cases hfl : f < l.length
      · exact hlow hfl j hj
      · unfold fI at hi
        rw [if_neg hfl] at hi
        have hjf : l.length + j < f := by
          by_cases hlt : l.length + j < f
          · exact hlt
          · have := cnt_mono (need.drop l.length) (show f - l.length ≤ j by omega)
            omega
        exact f2 _ hjf hpj
  · have hn := h.nd_len
    have hff := h.first
    have hfa : f < l.length + p.length := by rw [← hR.len]; exact (List.getElem?_eq_some_iff.1 f1).1
    rw [cnt_sel _ _ hn, hn]
    have h1 := cnt_all h (j := f - l.length + 1) (by omega) (p.length - (f - l.length + 1))
    rw [show f - l.length + 1 + (p.length - (f - l.length + 1)) = p.length by omega] at h1
    rw [h1, cnt_succ, if_pos (by rw [List.getElem?_drop, show l.length + (f - l.length) = f by omega]; exact hff)]
  · refine List.eq_nil_iff_forall_not_mem.2 fun s hs => ?_
    obtain ⟨k, hk⟩ := List.mem_iff_getElem?.1 hs
    obtain ⟨j, hj, _, _⟩ := sel_inv _ _ _ _ hk
    exact hlow hfl j hj
end
theorem sel_true {α : Type} : ∀ (nd : List Bool) (xs : List α), nd.length = xs.length → (∀ b ∈ nd, b = true) → sel nd xs = xs
  | [], [], _, _ => rfl
  | [], _ :: _, h, _ => by simp at h
  | _ :: _, [], h, _ => by simp at h
  | b :: nd, x :: xs, h, ht => by
    rw [sel, if_pos (ht b (List.mem_cons_self ..)), sel_true nd xs (by simpa using h) (fun b hb => ht b (List.mem_cons_of_mem _ hb))]
theorem cnt_true : ∀ (nd : List Bool) (j : Nat), j ≤ nd.length → (∀ b ∈ nd, b = true) → cnt nd j = j
  | nd, 0, _, _ => rfl
  | [], j + 1, h, _ => by simp at h
  | b :: nd, j + 1, h, ht => by
    rw [cnt_cons, if_pos (ht b (List.mem_cons_self ..)), cnt_true nd j (by simpa using h) (fun b hb => ht b (List.mem_cons_of_mem _ hb))]
/-- what Trim answers where it does, as a whole -/
theorem trim_law {l : List Cls} {p : List Stp} (h : (trimB l p).2 = 0) : ∃ all made, Repl l p all ∧ Repl l (trimB l p).1 (l ++ made) ∧ (trimB l p).1.length ≤ p.length ∧ trimB l (trimB l p).1 = ((trimB l p).1, 0) ∧ (∀ c, made.getLast? = some c → c = []) ∧ made.length = (trimB l p).1.length ∧ checkL l = 0 ∧ (made = [] → ∃ c ∈ l, c = []) := by
  have h0 : (needB l p).2 = 0 := by
    unfold trimB at h
    by_cases e : (needB l p).2 = 0
    · exact e
    · rw [if_pos e] at h; exact h
  obtain ⟨all, f, hR, hck, hpl, hf, hnb, hM⟩ := needB_ok h0
  have ht : trimB l p = (trimF (fun a _ => (a : Int)) l.length p ((needB l p).1.drop l.length) (idL l.length) [], 0) := by
    unfold trimB
    rw [if_neg (fun e => e h0)]
  generalize hneed : (needB l p).1 = need at hM ht
  rw [trim_sel hM hR] at ht
  have hR2 := trim_repl hM hR
  obtain ⟨t1, t2, t3⟩ := trim_first hM hR hf
  generalize hnd : need.drop l.length = nd at *
  have hl : p.length = (all.drop l.length).length := by rw [List.length_drop, hR.len]; omega
  have hlen : (sel nd (all.drop l.length)).length = ((sel nd p).map (ren l.length nd)).length := by rw [List.length_map, sel_len2 _ _ _ hl]
  rw [ht]
  refine ⟨all, sel nd (all.drop l.length), hR, hR2, by rw [List.length_map]; exact sel_len _ _, ?_, ?_, hlen, hck, ?_⟩
  · -- its own Trim
    generalize ho : (sel nd p).map (ren l.length nd) = out at hR2 hlen ⊢
    have hol : out.length ≤ p.length := by rw [← ho, List.length_map]; exact sel_len _ _
    have hrb := replB_ok hck (by omega) hR2
    have hnb2 : (needB l out).2 = 0 := by
      unfold needB
      rw [hrb]
      show (if (0 : Int) ≠ 0 then (([], 0) : List Bool × Int) else _).2 = 0
      rw [if_neg (fun e => e rfl), List.drop_left, t1]
    obtain ⟨all2, f2, hR3, _, _, hf2, _, hM2⟩ := needB_ok hnb2
    obtain rfl := hR2.inj hR3
    rw [t1] at hf2
    cases hf2
    have hall : ∀ k, k < out.length → (needB l out).1[l.length + k]? = some true := by
      have key : ∀ n k, k < out.length → out.length - k ≤ n → (needB l out).1[l.length + k]? = some true := by
        intro n
        induction n with
        | zero => intro k hk hn; omega
        | succ n ih =>
          intro k hk hn
          obtain ⟨s, hs⟩ : ∃ s, (sel nd p)[k]? = some s := ⟨_, List.getElem?_eq_getElem (by rw [← ho, List.length_map] at hk; exact hk)⟩
          obtain ⟨j, hj, hpj, hcj⟩ := sel_inv _ _ _ _ hs
          have hnj : need[l.length + j]? = some true := by rw [← hnd, List.getElem?_drop] at hj; exact hj
          have hfk : fI l.length nd (l.length + j) = l.length + k := by unfold fI; rw [if_neg (by omega), Nat.add_sub_cancel_left, hcj]
          rcases hM.up _ hnj with e | ⟨j2, s2, hp2, _, hn2, hk2⟩
          · have := hM2.first
            rw [← e, hfk] at this
            exact this
          · have hnd2 : nd[j2]? = some true := by rw [← hnd, List.getElem?_drop]; exact hn2
            have hsel := sel_get nd p j2 s2 hnd2 hp2
            obtain ⟨a, b, e1, e2, ha, hb, _⟩ := kids hR hp2
            have hjj : j < j2 := by rcases hk2 with e | e <;> omega
            have hkk : k < cnt nd j2 := by rw [← hcj]; exact cnt_lt nd hjj hj
            have hout : out[cnt nd j2]? = some (ren l.length nd s2) := by rw [← ho, List.getElem?_map, hsel]; rfl
            have hlt := (List.getElem?_eq_some_iff.1 hout).1
            have hd := hM2.down _ _ hout (Nat.zero_le _) (ih _ hlt (by omega))
            unfold ren at hd
            simp only [Int.toNat_natCast] at hd
            rcases hk2 with e | e
            · have := hd.1
              rw [e, Int.toNat_natCast, hfk] at this
              exact this
            · have := hd.2
              rw [e, Int.toNat_natCast, hfk] at this
              exact this
      exact fun k hk => key _ k hk (Nat.le_refl _)
    unfold trimB
    rw [if_neg (fun e => e hnb2), trim_sel hM2 hR2]
    have hn2 := hM2.nd_len
    have htrue : ∀ b ∈ (needB l out).1.drop l.length, b = true := fun b hb => by
      obtain ⟨k, hk⟩ := List.mem_iff_getElem?.1 hb
      have hkl := (List.getElem?_eq_some_iff.1 hk).1
      rw [List.getElem?_drop, hall k (by omega)] at hk
      exact (Option.some.inj hk).symm
    rw [sel_true _ _ hn2 htrue]
    congr 1
    refine List.ext_getElem? fun k => ?_
    rw [List.getElem?_map]
    cases hk : out[k]? with
    | none => rfl
    | some s =>
      have hkl := (List.getElem?_eq_some_iff.1 hk).1
      obtain ⟨a, b, e1, e2, ha, hb, _⟩ := kids hR2 hk
      have hid : ∀ i, i < l.length + k → fI l.length ((needB l out).1.drop l.length) i = i := fun i hi => by
        unfold fI
        by_cases e : i < l.length
        · rw [if_pos e]
        · rw [if_neg e, cnt_true _ _ (by omega) htrue]; omega
      obtain ⟨x, y, t⟩ := s
      simp only at e1 e2
      subst e1; subst e2
      show some (ren _ _ _) = _
      unfold ren
      simp only [Int.toNat_natCast]
      rw [hid a ha, hid b hb]
  · intro c hc
    by_cases hfl : l.length ≤ f
    · have h2 := t2 hfl
      have f1 := (firstE_some hf).1
      rw [List.getLast?_eq_getElem?, hlen, List.length_map, h2, Nat.add_sub_cancel] at hc
      have := sel_get nd (all.drop l.length) (f - l.length) [] (by rw [← hnd, List.getElem?_drop, show l.length + (f - l.length) = f by omega]; exact hM.first) (by rw [List.getElem?_drop, show l.length + (f - l.length) = f by omega]; exact f1)
      rw [this] at hc
      exact (Option.some.inj hc).symm
    · have h3 := t3 (by omega)
      have : sel nd (all.drop l.length) = [] := List.eq_nil_of_length_eq_zero (by rw [hlen, h3]; rfl)
      rw [this] at hc
      cases hc
  · intro hm
    have h1 := (firstE_some t1).1
    rw [hm, List.append_nil] at h1
    exact ⟨[], List.mem_of_getElem? h1, rfl⟩
end Go.Proofs.Ytggfjfmgclcnlaa.Z
namespace Go.Proofs.Ytggfjfmgclcnlaa.Z
set_option linter.unusedSimpArgs false
set_option linter.unusedVariables false

/-- the value of a literal: 1, -1, or 0 for none -/
def lv (v : List Int) (x : Int) : Int := if x < 0 then -(v.getD x.natAbs 0) else v.getD x.natAbs 0
def setV (v : List Int) (x : Int) : List Int := v.set x.natAbs (if 0 < x then 1 else -1)
def heldN (v : List Int) (c : Cls) : Nat := c.countP (fun x => lv v x == 1)
def openN (v : List Int) (c : Cls) : Nat := c.countP (fun x => lv v x == 0)
def freeB (v : List Int) (c : Cls) : Int := (c.find? (fun x => lv v x == 0)).getD 0
/-- the clause to go on with, and how many of its literals are open -/
def betterB (b : Option (Nat × Nat)) (i o : Nat) : Option (Nat × Nat) := match b with
  | none => some (i, o)
  | some q => if o < q.2 then some (i, o) else some q
def nextF (v : List Int) : List Cls → Nat → Option (Nat × Nat) → Option (Nat × Nat)
  | [], _, b => b
  | c :: r, i, b => if 0 < heldN v c then nextF v r (i + 1) b else if openN v c = 0 then some (i, 0) else nextF v r (i + 1) (betterB b i (openN v c))
structure SS where
  all : List Cls
  proof : List Stp
  fuel : Int
  tr : Int
def resolveB (S : SS) (w wo : Nat) (x : Int) : Nat × SS :=
  if x ∉ S.all.getD w [] then (w, S) else if -x ∉ S.all.getD wo [] then (wo, S) else
    if S.proof.length = 20000 then (if 0 < x then w else wo, { S with tr := 7 })
    else (S.all.length, { S with proof := S.proof ++ [(((if 0 < x then w else wo : Nat) : Int), ((if 0 < x then wo else w : Nat) : Int), (x.natAbs : Int))], all := S.all ++ [(resB (S.all.getD (if 0 < x then w else wo) []) (S.all.getD (if 0 < x then wo else w) []) (x.natAbs : Int)).getD []] })
structure Res where
  at_ : Nat
  fd : Bool
  v : List Int
  s : SS
/-- what stands behind the first try of a literal -/
def thenB (l : List Cls) (rec : List Int → SS → Res) (at_ o : Nat) (x : Int) (v : List Int) (r1 : Res) : Res :=
  if r1.fd then r1 else if r1.s.tr ≠ 0 ∨ -x ∉ r1.s.all.getD r1.at_ [] then ⟨r1.at_, false, v, r1.s⟩
    else if o = 1 then ⟨(resolveB r1.s at_ r1.at_ x).1, false, v, (resolveB r1.s at_ r1.at_ x).2⟩
    else let r2 := rec (setV v (-x)) r1.s
      if r2.fd then r2 else if r2.s.tr ≠ 0 then ⟨r2.at_, false, v, r2.s⟩ else ⟨(resolveB r2.s r2.at_ r1.at_ x).1, false, v, (resolveB r2.s r2.at_ r1.at_ x).2⟩
def searchB (l : List Cls) : Nat → List Int → SS → Res
  | 0, v, S => ⟨0, true, v, S⟩
  | k + 1, v, S => match nextF v l 0 none with
    | none => ⟨0, true, v, S⟩
    | some (i, o) => if o = 0 then ⟨i, false, v, { S with fuel := S.fuel - 1, tr := if S.fuel - 1 < 0 ∧ S.tr = 0 then 8 else S.tr }⟩
      else thenB l (searchB l k) i o (freeB v (l.getD i [])) v (searchB l k (setV v (freeB v (l.getD i []))) S)

/-! ### values -/
structure Vok (v : List Int) : Prop where
  len : v.length = 61
  val : ∀ (i : Nat) (y : Int), v[i]? = some y → y = 0 ∨ y = 1 ∨ y = -1
  zero : v[0]? = some 0
theorem Vok.get {v : List Int} (h : Vok v) (i : Nat) : v.getD i 0 = 0 ∨ v.getD i 0 = 1 ∨ v.getD i 0 = -1 := by
  rw [List.getD_eq_getElem?_getD]
  cases e : v[i]? with
  | none => exact .inl rfl
  | some y => exact h.val i y e
theorem Vok.lv {v : List Int} (h : Vok v) (x : Int) : lv v x = 0 ∨ lv v x = 1 ∨ lv v x = -1 := by
  have := h.get x.natAbs
  unfold Z.lv
  split <;> omega
theorem lv_neg (v : List Int) {x : Int} (h : x ≠ 0) : lv v (-x) = -(lv v x) := by
  unfold lv
  rw [Int.natAbs_neg]
  by_cases h1 : x < 0
  · rw [if_pos h1, if_neg (by omega)]; omega
  · rw [if_neg h1, if_pos (by omega)]
theorem Vok.set {v : List Int} (h : Vok v) {x : Int} (h0 : x ≠ 0) : Vok (setV v x) := by
  unfold setV
  refine ⟨by rw [List.length_set]; exact h.len, fun i y hy => ?_, ?_⟩
  · rw [List.getElem?_set] at hy
    by_cases e : x.natAbs = i
    · rw [if_pos e] at hy
      split at hy
      · cases hy
        split
        · exact .inr (.inl rfl)
        · exact .inr (.inr rfl)
      · cases hy
    · rw [if_neg e] at hy
      exact h.val i y hy
  · rw [List.getElem?_set, if_neg (by omega)]
    exact h.zero
theorem getD_set_self {v : List Int} {i : Nat} {y : Int} (h : i < v.length) : (v.set i y).getD i 0 = y := by
  rw [List.getD_eq_getElem?_getD, List.getElem?_set, if_pos rfl, if_pos h]; rfl
theorem getD_set_other {v : List Int} {i j : Nat} {y : Int} (h : i ≠ j) : (v.set i y).getD j 0 = v.getD j 0 := by
  rw [List.getD_eq_getElem?_getD, List.getElem?_set, if_neg h, ← List.getD_eq_getElem?_getD]
theorem lv_set_self {v : List Int} (h : Vok v) {x : Int} (h0 : x ≠ 0) (h1 : x.natAbs ≤ 60) : lv (setV v x) x = 1 := by
  unfold lv setV
  rw [getD_set_self (by rw [h.len]; omega)]
  by_cases hx : x < 0
  · rw [if_pos hx, if_neg (by omega)]; omega
  · rw [if_neg hx, if_pos (by omega)]
theorem lv_set_other {v : List Int} {x y : Int} (h : y.natAbs ≠ x.natAbs) : lv (setV v x) y = lv v y := by
  unfold lv setV
  rw [getD_set_other (fun e => h e.symm)]
/-- how many of the first atoms have no value -/
def freeN (G : Nat) (v : List Int) : Nat := (List.range G).countP (fun a => v.getD (a + 1) 0 == 0)
theorem countP_lt {α : Type} {p q : α → Bool} : ∀ {l : List α}, (∀ x ∈ l, q x = true → p x = true) → (∃ x ∈ l, p x = true ∧ q x = false) → l.countP q + 1 ≤ l.countP p
  | [], _, h => by obtain ⟨x, hx, _⟩ := h; exact absurd hx List.not_mem_nil
  | y :: r, h, ⟨x, hx, h1, h2⟩ => by
    rw [List.countP_cons, List.countP_cons]
    rcases List.mem_cons.1 hx with rfl | hx
    · have : r.countP q ≤ r.countP p := List.countP_mono_left (fun z hz => h z (List.mem_cons_of_mem _ hz))
      rw [h1, h2]
      simp only [if_true, Bool.false_eq_true, if_false]
      omega
    · have := countP_lt (fun z hz => h z (List.mem_cons_of_mem _ hz)) ⟨x, hx, h1, h2⟩
      have h3 : (if q y = true then 1 else 0) ≤ (if p y = true then 1 else 0) := by
        by_cases e : q y = true
        · rw [if_pos e, if_pos (h y (List.mem_cons_self ..) e)]; exact Nat.le_refl _
        · rw [if_neg e]; exact Nat.zero_le _
      omega
theorem freeN_le (G : Nat) (v : List Int) : freeN G v ≤ G := by
  have := List.countP_le_length (p := fun a => v.getD (a + 1) 0 == 0) (l := List.range G)
  rw [List.length_range] at this
  exact this
theorem lv_zero {v : List Int} {x : Int} (h : lv v x = 0) : v.getD x.natAbs 0 = 0 := by
  unfold lv at h
  split at h <;> omega
theorem freeN_set {G : Nat} {v : List Int} (hv : Vok v) {x : Int} (h0 : x ≠ 0) (hG : x.natAbs ≤ G) (h60 : x.natAbs ≤ 60) (hx : lv v x = 0) : freeN G (setV v x) + 1 ≤ freeN G v := by
  have hself : (setV v x).getD x.natAbs 0 ≠ 0 := by
    unfold setV
    rw [getD_set_self (by rw [hv.len]; omega)]
    split <;> omega
  refine countP_lt (fun a _ ha => ?_) ⟨x.natAbs - 1, List.mem_range.2 (by omega), ?_, ?_⟩
  · by_cases e : a + 1 = x.natAbs
    · rw [e, beq_iff_eq] at ha
      exact absurd ha hself
    · unfold setV at ha
      rw [getD_set_other (by omega)] at ha
      exact ha
  · rw [show x.natAbs - 1 + 1 = x.natAbs by omega, lv_zero hx]; rfl
  · rw [show x.natAbs - 1 + 1 = x.natAbs by omega, beq_eq_false_iff_ne]; exact hself
theorem nextF_none (v : List Int) : ∀ (l : List Cls) (i : Nat) (b : Option (Nat × Nat)), nextF v l i b = none → b = none ∧ ∀ c ∈ l, 0 < heldN v c
  | [], i, b, h => ⟨h, fun c hc => absurd hc List.not_mem_nil⟩
  | c :: r, i, b, h => by
    rw [nextF] at h
    by_cases h1 : 0 < heldN v c
    · rw [if_pos h1] at h
      obtain ⟨k1, k2⟩ := nextF_none v r _ b h
      exact ⟨k1, fun d hd => (List.mem_cons.1 hd).elim (fun e => e ▸ h1) (k2 d)⟩
    · rw [if_neg h1] at h
      by_cases h2 : openN v c = 0
      · rw [if_pos h2] at h; cases h
      · rw [if_neg h2] at h
        have := (nextF_none v r _ _ h).1
        unfold betterB at this
        cases b with
        | none => cases this
        | some q =>
          dsimp only at this
          split at this <;> cases this
theorem nextF_some (v : List Int) (l0 : List Cls) : ∀ (l : List Cls) (i : Nat) (b : Option (Nat × Nat)), l0.drop i = l → (∀ j o, b = some (j, o) → ∃ c, l0[j]? = some c ∧ heldN v c = 0 ∧ openN v c = o ∧ 0 < o) → ∀ j o, nextF v l i b = some (j, o) → ∃ c, l0[j]? = some c ∧ heldN v c = 0 ∧ openN v c = o
  | [], i, b, _, hb, j, o, h => by
    obtain ⟨c, h1, h2, h3, _⟩ := hb j o h
    exact ⟨c, h1, h2, h3⟩
  | c :: r, i, b, hd, hb, j, o, h => by
    have hc : l0[i]? = some c := by
      have := congrArg (fun l : List Cls => l[0]?) hd
      simp only [List.getElem?_drop, Nat.add_zero, List.getElem?_cons_zero] at this
      exact this
    have hd2 : l0.drop (i + 1) = r := by
      have := congrArg List.tail hd
      rw [List.tail_drop] at this
      exact this
    rw [nextF] at h
    by_cases h1 : 0 < heldN v c
    · rw [if_pos h1] at h
      exact nextF_some v l0 r _ b hd2 hb j o h
    · rw [if_neg h1] at h
      by_cases h2 : openN v c = 0
      · rw [if_pos h2] at h
        cases h
        exact ⟨c, hc, by omega, h2⟩
      · rw [if_neg h2] at h
        have hnew : ∀ j o, some (i, openN v c) = some (j, o) → ∃ c, l0[j]? = some c ∧ heldN v c = 0 ∧ openN v c = o ∧ 0 < o := fun j o e => by
          cases e
          exact ⟨c, hc, by omega, rfl, by omega⟩
        refine nextF_some v l0 r _ _ hd2 (fun j' o' e => ?_) j o h
        unfold betterB at e
        cases b with
        | none => exact hnew j' o' e
        | some q =>
          dsimp only at e
          split at e
          · exact hnew j' o' e
          · exact hb j' o' e
theorem freeB_spec {v : List Int} {c : Cls} (h : openN v c ≠ 0) : freeB v c ∈ c ∧ lv v (freeB v c) = 0 := by
  unfold openN at h
  have h1 : 0 < c.countP (fun x => lv v x == 0) := by omega
  rw [List.countP_pos_iff] at h1
  obtain ⟨x, hx, h2⟩ := h1
  unfold freeB
  cases hf : c.find? (fun x => lv v x == 0) with
  | none => exact absurd h2 (List.find?_eq_none.1 hf x hx)
  | some y => exact ⟨List.mem_of_find?_eq_some hf, by have := List.find?_some hf; simpa using this⟩
theorem countP_one {p : Int → Bool} : ∀ (c : Cls), c.countP p = 1 → ∀ (x y : Int), x ∈ c → y ∈ c → p x = true → p y = true → x = y
  | [], h, _, _, hx, _, _, _ => absurd hx List.not_mem_nil
  | z :: r, h, x, y, hx, hy, px, py => by
    rw [List.countP_cons] at h
    have pos : ∀ (u : Int), u ∈ r → p u = true → 0 < r.countP p := fun u hu pu => List.countP_pos_iff.2 ⟨u, hu, pu⟩
    rcases List.mem_cons.1 hx with e1 | hx'
    · rcases List.mem_cons.1 hy with e2 | hy'
      · rw [e1, e2]
      · have := pos y hy' py
        rw [e1] at px
        rw [if_pos px] at h
        omega
    · rcases List.mem_cons.1 hy with e2 | hy'
      · have := pos x hx' px
        rw [e2] at py
        rw [if_pos py] at h
        omega
      · have := pos x hx' px
        by_cases e : p z = true
        · rw [if_pos e] at h; omega
        · rw [if_neg e] at h
          exact countP_one r (by omega) x y hx' hy' px py
theorem held_zero {v : List Int} {c : Cls} (h : heldN v c = 0) : ∀ x ∈ c, lv v x ≠ 1 := fun x hx e => by
  have : 0 < c.countP (fun x => lv v x == 1) := List.countP_pos_iff.2 ⟨x, hx, by simp [e]⟩
  unfold heldN at h
  omega

/-! ### the search -/
structure Inv (l : List Cls) (S : SS) : Prop where
  repl : Repl l S.proof S.all
  few : S.proof.length ≤ 20000
def Bad (v : List Int) (S : SS) (i : Nat) : Prop := i < S.all.length ∧ ∀ y ∈ S.all.getD i [], lv v y = -1
theorem resolve_spec {l : List Cls} (hl : ∀ c ∈ l, rightC c = true) {S : SS} (hS : Inv l S) (ht : S.tr = 0) {v : List Int} {x : Int} (h0 : x ≠ 0) {w wo : Nat} (hw : w < S.all.length) (hwo : wo < S.all.length)
    (h1 : ∀ y ∈ S.all.getD w [], y ≠ x → lv v y = -1) (h2 : ∀ y ∈ S.all.getD wo [], y ≠ -x → lv v y = -1) :
    Inv l (resolveB S w wo x).2 ∧ S.all <+: (resolveB S w wo x).2.all ∧ (resolveB S w wo x).2.fuel = S.fuel ∧ ((resolveB S w wo x).2.tr = 0 ∨ (resolveB S w wo x).2.tr = 7) ∧ ((resolveB S w wo x).2.tr = 0 → Bad v (resolveB S w wo x).2 (resolveB S w wo x).1) := by
  have hr := hS.repl.right hl
  unfold resolveB
  by_cases a1 : x ∈ S.all.getD w []
  · rw [if_neg (fun e => e a1)]
    by_cases a2 : -x ∈ S.all.getD wo []
    · rw [if_neg (fun e => e a2)]
      by_cases a3 : S.proof.length = 20000
      · rw [if_pos a3]
        exact ⟨⟨hS.repl, hS.few⟩, List.prefix_refl _, rfl, .inr rfl, fun e => absurd (show (7 : Int) = 0 from e) (by decide)⟩
      · rw [if_neg a3]
        have ew : S.all.getD w [] = S.all[w] := by rw [List.getD_eq_getElem?_getD, List.getElem?_eq_getElem hw]; rfl
        have ewo : S.all.getD wo [] = S.all[wo] := by rw [List.getD_eq_getElem?_getD, List.getElem?_eq_getElem hwo]; rfl
        rw [ew] at a1 h1
        rw [ewo] at a2 h2
        have rw1 := hr _ (List.getElem_mem hw)
        have rw2 := hr _ (List.getElem_mem hwo)
        have lit1 := (right_iff.1 rw1).1
        have lit2 := (right_iff.1 rw2).1
        have clash : ∀ y ∈ S.all[wo], y ≠ -x → -y ∈ S.all[w] → False := fun y hy hne hny => by
          have e1 := h2 y hy hne
          have e2 := h1 (-y) hny (fun e => hne (by omega))
          rw [lv_neg v (lit2 y hy).1] at e2
          omega
        obtain ⟨c, hc, hm⟩ : ∃ c, resB (S.all.getD (if 0 < x then w else wo) []) (S.all.getD (if 0 < x then wo else w) []) (x.natAbs : Int) = some c ∧ ∀ y ∈ c, lv v y = -1 := by
          by_cases hx : 0 < x
          · have ex : (x.natAbs : Int) = x := by omega
            rw [if_pos hx, if_pos hx, ew, ewo, ex]
            obtain ⟨c, hc⟩ := resB_some (by omega) a1 a2 rw1 rw2 clash
            refine ⟨c, hc, fun y hy => ?_⟩
            rcases ((resB_spec hc rw1 rw2).2 y).1 hy with h | h
            · exact h1 y h.1 h.2
            · exact h2 y h.1 h.2
          · have ex : (x.natAbs : Int) = -x := by omega
            rw [if_neg hx, if_neg hx, ew, ewo, ex]
            obtain ⟨c, hc⟩ := resB_some (t := -x) (by omega) a2 (by rw [Int.neg_neg]; exact a1) rw2 rw1 (fun y hy hne hny => by
              rw [Int.neg_neg] at hne
              exact clash (-y) hny (fun e => hne (by omega)) (by rw [Int.neg_neg]; exact hy))
            refine ⟨c, hc, fun y hy => ?_⟩
            rcases ((resB_spec hc rw2 rw1).2 y).1 hy with h | h
            · exact h2 y h.1 h.2
            · exact h1 y h.1 (fun e => h.2 (by omega))
        have hstep : step1 S.all (((if 0 < x then w else wo : Nat) : Int), ((if 0 < x then wo else w : Nat) : Int), (x.natAbs : Int)) = some c := by
          have ha : (if 0 < x then w else wo) < S.all.length := by split <;> assumption
          have hb : (if 0 < x then wo else w) < S.all.length := by split <;> assumption
          refine step1_of ha hb ?_
          rw [List.getD_eq_getElem?_getD, List.getElem?_eq_getElem ha, List.getD_eq_getElem?_getD, List.getElem?_eq_getElem hb] at hc
          exact hc
        rw [hc]
        refine ⟨⟨hS.repl.snoc hstep, ?_⟩, List.prefix_append .., rfl, .inl ht, fun _ => ⟨?_, ?_⟩⟩
        · rw [List.length_append, List.length_singleton]
          have := hS.few
          omega
        · rw [List.length_append, List.length_singleton]; omega
        · intro y hy
          rw [List.getD_eq_getElem?_getD, List.getElem?_append_right (Nat.le_refl _), Nat.sub_self] at hy
          exact hm y hy
    · rw [if_pos a2]
      exact ⟨hS, List.prefix_refl _, rfl, .inl ht, fun _ => ⟨hwo, fun y hy => h2 y hy (fun e => a2 (e ▸ hy))⟩⟩
  · rw [if_pos a1]
    exact ⟨hS, List.prefix_refl _, rfl, .inl ht, fun _ => ⟨hw, fun y hy => h1 y hy (fun e => a1 (e ▸ hy))⟩⟩
structure Post (l : List Cls) (G : Nat) (v : List Int) (S : SS) (r : Res) : Prop where
  inv : Inv l r.s
  ext : S.all <+: r.s.all
  tr : r.s.tr = 0 ∨ r.s.tr = 7 ∨ r.s.tr = 8
  fuel : S.fuel - r.s.fuel ≤ ((2 ^ freeN G v : Nat) : Int)
  low : -1 ≤ r.s.fuel
  ok : r.s.tr = 0 → 0 ≤ r.s.fuel
  out : r.s.tr = 8 → r.s.fuel = -1
  yes : r.fd = true → r.s.tr = 0 ∧ Vok r.v ∧ ∀ c ∈ l, 0 < heldN r.v c
  no : r.fd = false → r.v = v ∧ (r.s.tr = 0 → Bad v r.s r.at_)
theorem prefix_getD {a b : List Cls} (h : a <+: b) {i : Nat} (hi : i < a.length) : b.getD i [] = a.getD i [] := by
  obtain ⟨r, rfl⟩ := h
  rw [List.getD_eq_getElem?_getD, List.getD_eq_getElem?_getD, List.getElem?_append_left hi]
theorem bad_set {v : List Int} (hv : Vok v) {x : Int} (h0 : x ≠ 0) (h60 : x.natAbs ≤ 60) {c : Cls} (h : ∀ y ∈ c, lv (setV v x) y = -1) : ∀ y ∈ c, y ≠ -x → lv v y = -1 := fun y hy hne => by
  have := h y hy
  by_cases e : y.natAbs = x.natAbs
  · have hyx : y = x := by omega
    rw [hyx, lv_set_self hv h0 h60] at this
    omega
  · rw [lv_set_other e] at this
    exact this
theorem pow_two {m n : Nat} (h : m + 1 ≤ n) : 2 ^ m + 2 ^ m ≤ 2 ^ n := by
  have := Nat.pow_le_pow_right (show 0 < 2 by decide) h
  rw [Nat.pow_succ] at this
  omega
theorem search_spec {l : List Cls} (hl : ∀ c ∈ l, rightC c = true) {G : Nat} (hG : ∀ c ∈ l, ∀ x ∈ c, x.natAbs ≤ G) : ∀ (k : Nat) (v : List Int) (S : SS), Vok v → freeN G v < k → Inv l S → S.tr = 0 → 0 ≤ S.fuel → Post l G v S (searchB l k v S)
  | 0, v, S, _, h, _, _, _ => by omega
  | k + 1, v, S, hv, hk, hS, ht, hf => by
    have hpos : 0 < 2 ^ freeN G v := Nat.pow_pos (by decide)
    rw [searchB]
    cases hn : nextF v l 0 none with
    | none =>
      have hh := (nextF_none v l 0 none hn).2
      exact ⟨hS, List.prefix_refl _, .inl ht, by simp only; omega, by simp only; omega, fun _ => hf, fun e => by simp only at e; omega, fun _ => ⟨ht, hv, hh⟩, fun e => by cases e⟩
    | some io =>
      obtain ⟨i, o⟩ := io
      obtain ⟨c, hc, hh, ho⟩ := nextF_some v l l 0 none rfl (fun j o e => by cases e) i o hn
      have hil := (List.getElem?_eq_some_iff.1 hc).1
      have hcm := List.mem_of_getElem? hc
      have hla : l.length ≤ S.all.length := hS.repl.pre.length_le
      have hci : l.getD i [] = c := by rw [List.getD_eq_getElem?_getD, hc]; rfl
      dsimp only
      by_cases h0 : o = 0
      · rw [if_pos h0]
        subst h0
        refine ⟨⟨hS.repl, hS.few⟩, List.prefix_refl _, ?_, by simp only; omega, by simp only; omega, fun e => ?_, fun e => ?_, (fun e => by cases e), fun _ => ⟨rfl, fun _ => ⟨by simp only; omega, fun y hy => ?_⟩⟩⟩
        · simp only
          split
          · exact .inr (.inr rfl)
          · exact .inl ht
        · simp only at e ⊢
          split at e
          · omega
          · rename_i h; exact Decidable.byContradiction fun h2 => h ⟨by omega, ht⟩
        · simp only at e ⊢
          split at e
          · rename_i h; omega
          · omega
        · simp only at hy
          rw [prefix_getD hS.repl.pre hil, hci] at hy
          have a1 := held_zero hh y hy
          have a2 : lv v y ≠ 0 := fun e => by
            have : 0 < c.countP (fun x => lv v x == 0) := List.countP_pos_iff.2 ⟨y, hy, by simp [e]⟩
            unfold openN at ho
            omega
          have := hv.lv y
          omega
      · rw [if_neg h0, hci]
        obtain ⟨x1, x2⟩ := freeB_spec (v := v) (c := c) (by rw [ho]; exact h0)
        generalize freeB v c = x at x1 x2
        have lit := (right_iff.1 (hl c hcm)).1 x x1
        have x0 : x ≠ 0 := lit.1
        have x60 : x.natAbs ≤ 60 := by have := lit.2; omega
        have hxG := hG c hcm x x1
        have fr := freeN_set hv x0 hxG x60 x2
        have hp2 := pow_two fr
        have P1 := search_spec hl hG k (setV v x) S (hv.set x0) (by omega) hS ht hf
        generalize searchB l k (setV v x) S = r1 at P1
        have hf1 := P1.fuel
        unfold thenB
        by_cases fd1 : r1.fd = true
        · rw [if_pos fd1]
          exact ⟨P1.inv, P1.ext, P1.tr, by omega, P1.low, P1.ok, P1.out, P1.yes, fun e => by rw [fd1] at e; cases e⟩
        · rw [if_neg fd1]
          have fd1' : r1.fd = false := by simpa using fd1
          obtain ⟨_, n1⟩ := P1.no fd1'
          by_cases t1 : r1.s.tr = 0
          · obtain ⟨b1, b2⟩ := n1 t1
            have b3 := bad_set hv x0 x60 b2
            by_cases hx1 : -x ∈ r1.s.all.getD r1.at_ []
            · rw [if_neg (by rintro (h | h); exact h t1; exact h hx1)]
              have hcl : ∀ {T : SS}, Inv l T → T.all.getD i [] = c := fun hT => by rw [prefix_getD hT.repl.pre hil, hci]
              by_cases h1 : o = 1
              · rw [if_pos h1]
                have hlen : i < r1.s.all.length := by have := P1.ext.length_le; omega
                have ho1 : ∀ y ∈ r1.s.all.getD i [], y ≠ x → lv v y = -1 := fun y hy hne => by
                  rw [hcl P1.inv] at hy
                  have a1 := held_zero hh y hy
                  have a2 : lv v y ≠ 0 := fun e => hne (countP_one (p := fun x => lv v x == 0) c (by unfold openN at ho; omega) y x hy x1 (by simp [e]) (by simp [x2]))
                  have := hv.lv y
                  omega
                obtain ⟨q1, q2, q3, q4, q5⟩ := resolve_spec hl P1.inv t1 x0 hlen b1 ho1 b3
                have hok := P1.ok t1
                generalize resolveB r1.s i r1.at_ x = q at q1 q2 q3 q4 q5
                exact ⟨q1, P1.ext.trans q2, q4.imp id .inl, by simp only; omega, by simp only; omega, fun _ => by simp only; omega, fun e => by simp only at e; omega, (fun e => by cases e), fun _ => ⟨rfl, q5⟩⟩
              · rw [if_neg h1]
                have xn0 : -x ≠ 0 := by omega
                have xn60 : (-x).natAbs ≤ 60 := by omega
                have fr2 := freeN_set hv xn0 (G := G) (by omega) xn60 (by rw [lv_neg v x0, x2]; rfl)
                have hp3 := pow_two fr2
                have P2 := search_spec hl hG k (setV v (-x)) r1.s (hv.set xn0) (by omega) P1.inv t1 (P1.ok t1)
                generalize searchB l k (setV v (-x)) r1.s = r2 at P2
                have hf2 := P2.fuel
                have hm : freeN G (setV v (-x)) = freeN G (setV v (-x)) := rfl
                have hpm1 : 2 ^ freeN G (setV v x) ≤ 2 ^ (freeN G v - 1) := Nat.pow_le_pow_right (by decide) (by omega)
                have hpm2 : 2 ^ freeN G (setV v (-x)) ≤ 2 ^ (freeN G v - 1) := Nat.pow_le_pow_right (by decide) (by omega)
                have hpm := pow_two (show (freeN G v - 1) + 1 ≤ freeN G v by omega)
                have hfz : S.fuel - r2.s.fuel ≤ ((2 ^ freeN G v : Nat) : Int) := by omega
                dsimp only
                by_cases fd2 : r2.fd = true
                · rw [if_pos fd2]
                  exact ⟨P2.inv, P1.ext.trans P2.ext, P2.tr, hfz, P2.low, P2.ok, P2.out, P2.yes, fun e => by rw [fd2] at e; cases e⟩
                · rw [if_neg fd2]
                  have fd2' : r2.fd = false := by simpa using fd2
                  obtain ⟨_, n2⟩ := P2.no fd2'
                  by_cases t2 : r2.s.tr = 0
                  · rw [if_neg (fun e => e t2)]
                    obtain ⟨d1, d2⟩ := n2 t2
                    have d3 := bad_set hv xn0 xn60 d2
                    rw [Int.neg_neg] at d3
                    obtain ⟨q1, q2, q3, q4, q5⟩ := resolve_spec hl P2.inv t2 x0 d1 (show r1.at_ < r2.s.all.length by have := P2.ext.length_le; omega) d3 (by rw [prefix_getD P2.ext b1]; exact b3)
                    have hok := P2.ok t2
                    generalize resolveB r2.s r2.at_ r1.at_ x = q at q1 q2 q3 q4 q5
                    exact ⟨q1, (P1.ext.trans P2.ext).trans q2, q4.imp id .inl, by simp only; omega, by simp only; omega, fun _ => by simp only; omega, fun e => by simp only at e; omega, (fun e => by cases e), fun _ => ⟨rfl, q5⟩⟩
                  · rw [if_pos t2]
                    exact ⟨P2.inv, P1.ext.trans P2.ext, P2.tr, hfz, P2.low, P2.ok, P2.out, (fun e => by cases e), fun _ => ⟨rfl, fun e => absurd e t2⟩⟩
            · rw [if_pos (.inr hx1)]
              exact ⟨P1.inv, P1.ext, P1.tr, by simp only; omega, P1.low, P1.ok, P1.out, (fun e => by cases e), fun _ => ⟨rfl, fun _ => ⟨b1, fun y hy => b3 y hy (fun e => hx1 (e ▸ hy))⟩⟩⟩
          · rw [if_pos (.inl t1)]
            exact ⟨P1.inv, P1.ext, P1.tr, by simp only; omega, P1.low, P1.ok, P1.out, (fun e => by cases e), fun _ => ⟨rfl, fun e => absurd e t1⟩⟩

/-! ### the whole answer -/
/-- the greatest atom -/
def mostC (m : Nat) (c : Cls) : Nat := c.foldl (fun m x => max m x.natAbs) m
def mostB (l : List Cls) : Nat := l.foldl mostC 0
theorem mostC_le : ∀ (c : Cls) (m : Nat), m ≤ mostC m c ∧ ∀ x ∈ c, x.natAbs ≤ mostC m c
  | [], m => ⟨Nat.le_refl _, fun x hx => absurd hx List.not_mem_nil⟩
  | x :: r, m => by
    obtain ⟨h1, h2⟩ := mostC_le r (max m x.natAbs)
    have e : mostC m (x :: r) = mostC (max m x.natAbs) r := rfl
    rw [e]
    refine ⟨by omega, fun y hy => ?_⟩
    rcases List.mem_cons.1 hy with rfl | hy
    · omega
    · exact h2 y hy
theorem mostL_le : ∀ (l : List Cls) (m : Nat), m ≤ l.foldl mostC m ∧ ∀ c ∈ l, ∀ x ∈ c, x.natAbs ≤ l.foldl mostC m
  | [], m => ⟨Nat.le_refl _, fun c hc => absurd hc List.not_mem_nil⟩
  | c :: r, m => by
    obtain ⟨h1, h2⟩ := mostL_le r (mostC m c)
    obtain ⟨h3, h4⟩ := mostC_le c m
    rw [List.foldl_cons]
    refine ⟨by omega, fun d hd => ?_⟩
    rcases List.mem_cons.1 hd with rfl | hd
    · intro x hx
      have := h4 x hx
      omega
    · exact h2 d hd
theorem most_le {l : List Cls} : ∀ c ∈ l, ∀ x ∈ c, x.natAbs ≤ mostB l := (mostL_le l 0).2
theorem mostC_60 : ∀ (c : Cls) (m : Nat), m ≤ 60 → (∀ x ∈ c, Lit x) → mostC m c ≤ 60
  | [], m, h, _ => h
  | x :: r, m, h, hc => by
    have := hc x (List.mem_cons_self ..)
    unfold Lit at this
    exact mostC_60 r (max m x.natAbs) (by omega) (fun y hy => hc y (List.mem_cons_of_mem _ hy))
theorem mostL_60 : ∀ (l : List Cls) (m : Nat), m ≤ 60 → (∀ c ∈ l, rightC c = true) → l.foldl mostC m ≤ 60
  | [], m, h, _ => h
  | c :: r, m, h, hl => mostL_60 r _ (mostC_60 c m h (right_iff.1 (hl c (List.mem_cons_self ..))).1) (fun d hd => hl d (List.mem_cons_of_mem _ hd))
def zerosV : List Int := List.replicate 61 0
theorem zeros_ok : Vok zerosV := by
  refine ⟨by decide, fun i y h => ?_, by decide⟩
  unfold zerosV at h
  rw [List.getElem?_replicate] at h
  split at h
  · cases h; exact .inl rfl
  · cases h
def start (l : List Cls) (fuel : Int) : SS := { all := l, proof := [], fuel := fuel, tr := 0 }
structure Ans where
  holds : Bool
  values : List Bool
  proof : List Stp
  err : Int
def valsB (n : Nat) (v : List Int) : List Bool := if n = 0 then [] else (List.range (n + 1)).map (fun a => decide (0 < v.getD a 0))
def solveB (l : List Cls) (fuel : Int) : Ans :=
  if checkL l ≠ 0 then ⟨false, [], [], checkL l⟩ else if fuel < 0 ∨ 100000 < fuel then ⟨false, [], [], 4⟩ else
    let r := searchB l 61 zerosV (start l fuel)
    if r.s.tr ≠ 0 then ⟨false, [], [], r.s.tr⟩ else if r.fd then ⟨true, valsB (mostB l) r.v, [], 0⟩ else ⟨false, [], (trimB l r.s.proof).1, (trimB l r.s.proof).2⟩
def vecB (n bits : Nat) : List Bool := false :: (List.range n).map (fun a => bits.testBit a)
def canB (n : Nat) (l : List Cls) : Bool := (List.range (2 ^ n)).any (fun bits => holdL (vecB n bits) l)
theorem bits_of : ∀ (bs : List Bool), ∃ m, m < 2 ^ bs.length ∧ ∀ a b, bs[a]? = some b → m.testBit a = b
  | [] => ⟨0, by decide, fun a b h => by simp at h⟩
  | b :: r => by
    obtain ⟨m, h1, h2⟩ := bits_of r
    refine ⟨2 * m + b.toNat, ?_, fun a c hc => ?_⟩
    · rw [List.length_cons, Nat.pow_succ]
      have := b.toNat_le
      omega
    · cases a with
      | zero =>
        simp only [List.getElem?_cons_zero, Option.some.injEq] at hc
        subst hc
        rw [Nat.testBit_zero]
        cases b
        · simp
        · simp
      | succ a =>
        rw [List.getElem?_cons_succ] at hc
        rw [Nat.testBit_succ, ← h2 a c hc]
        congr 1
        have := b.toNat_le
        omega
theorem holdL_congr {v u : List Bool} {l : List Cls} (h : ∀ c ∈ l, ∀ x ∈ c, hlB v x = hlB u x) : holdL v l = holdL u l := by
  unfold holdL
  rw [Bool.eq_iff_iff, List.all_eq_true, List.all_eq_true]
  refine forall_congr' fun c => forall_congr' fun hc => ?_
  unfold holdC
  rw [List.any_eq_true, List.any_eq_true]
  exact exists_congr fun x => ⟨fun ⟨a, b⟩ => ⟨a, by rw [← h c hc x a]; exact b⟩, fun ⟨a, b⟩ => ⟨a, by rw [h c hc x a]; exact b⟩⟩
/-- what Solve answers of right clauses -/
theorem solve_law {l : List Cls} {fuel : Int} (h0 : checkL l = 0) (hf0 : 0 ≤ fuel) (hf1 : fuel ≤ 100000) :
    ((solveB l fuel).err = 0 ∨ (solveB l fuel).err = 7 ∨ (solveB l fuel).err = 8) ∧ ((solveB l fuel).err = 8 → fuel < ((2 ^ mostB l : Nat) : Int)) ∧
    ((solveB l fuel).err = 0 → (solveB l fuel).holds = true → (solveB l fuel).proof = [] ∧ ((mostB l = 0 ∧ (solveB l fuel).values = []) ∨ ((solveB l fuel).values.length = mostB l + 1 ∧ (solveB l fuel).values[0]? = some false)) ∧ holdL (solveB l fuel).values l = true ∧ canB (mostB l) l = true) ∧
    ((solveB l fuel).err = 0 → (solveB l fuel).holds = false → (solveB l fuel).values = [] ∧ (∀ v, holdL v l = false) ∧ canB (mostB l) l = false ∧ ∃ p made, (solveB l fuel).proof = (trimB l p).1 ∧ (trimB l p).2 = 0 ∧ Repl l (solveB l fuel).proof (l ++ made) ∧ (solveB l fuel).proof.length ≤ 20000 ∧ made.length = (solveB l fuel).proof.length ∧ (∀ c, made.getLast? = some c → c = []) ∧ (made = [] → ∃ c ∈ l, c = [])) := by
  obtain ⟨hlen, hr⟩ := checkL_ok h0
  have hG := most_le (l := l)
  have h60 : mostB l ≤ 60 := mostL_60 l 0 (by decide) hr
  have hz := freeN_le (mostB l) zerosV
  have P := search_spec hr hG 61 zerosV (start l fuel) zeros_ok (by omega) ⟨.nil l, Nat.zero_le _⟩ rfl hf0
  unfold solveB
  rw [if_neg (fun e => e h0), if_neg (by omega)]
  dsimp only
  generalize searchB l 61 zerosV (start l fuel) = r at P
  have hfu := P.fuel
  have hst : (start l fuel).fuel = fuel := rfl
  rw [hst] at hfu
  by_cases ht : r.s.tr = 0
  · rw [if_neg (fun e => e ht)]
    cases hfd : r.fd with
    | true =>
      rw [if_pos rfl]
      obtain ⟨_, hv, hh⟩ := P.yes hfd
      have hlit : ∀ c ∈ l, ∃ x ∈ c, x ≠ 0 ∧ x.natAbs ≤ mostB l ∧ lv r.v x = 1 := fun c hc => by
        have h1 := hh c hc
        unfold heldN at h1
        rw [List.countP_pos_iff] at h1
        obtain ⟨x, hx, h2⟩ := h1
        exact ⟨x, hx, ((right_iff.1 (hr c hc)).1 x hx).1, hG c hc x hx, by simpa using h2⟩
      have hval : (mostB l = 0 ∧ valsB (mostB l) r.v = []) ∨ ((valsB (mostB l) r.v).length = mostB l + 1 ∧ (valsB (mostB l) r.v)[0]? = some false) := by
        unfold valsB
        by_cases e : mostB l = 0
        · exact .inl ⟨e, if_pos e⟩
        · rw [if_neg e]
          refine .inr ⟨by simp, ?_⟩
          have := hv.zero
          simp [List.getD_eq_getElem?_getD, this]
      have hhold : holdL (valsB (mostB l) r.v) l = true := by
        unfold holdL
        refine List.all_eq_true.2 fun c hc => List.any_eq_true.2 ?_
        obtain ⟨x, hx, hx0, hxm, hx1⟩ := hlit c hc
        refine ⟨x, hx, ?_⟩
        unfold hlB valsB
        rw [if_neg (by omega), List.getElem?_map, List.getElem?_range (by omega)]
        show (decide (0 < r.v.getD x.natAbs 0) == decide (0 < x)) = true
        unfold lv at hx1
        by_cases hs : x < 0
        · rw [if_pos hs] at hx1
          rw [decide_eq_false (by omega), decide_eq_false (by omega)]; rfl
        · rw [if_neg hs] at hx1
          rw [decide_eq_true (by omega), decide_eq_true (by omega)]; rfl
      refine ⟨.inl rfl, (fun e => by cases e), fun _ _ => ⟨rfl, hval, hhold, ?_⟩, (fun _ e => by cases e)⟩
      unfold canB
      rw [List.any_eq_true]
      rcases hval with ⟨e1, e2⟩ | ⟨e1, e2⟩
      · have hln : l = [] := List.eq_nil_iff_forall_not_mem.2 fun c hc => by
          obtain ⟨x, _, hx0, hxm, _⟩ := hlit c hc
          omega
        rw [hln]
        exact ⟨0, List.mem_range.2 (Nat.pow_pos (by decide)), rfl⟩
      · obtain ⟨m, hm1, hm2⟩ := bits_of ((valsB (mostB l) r.v).drop 1)
        rw [List.length_drop, e1, Nat.add_sub_cancel] at hm1
        refine ⟨m, List.mem_range.2 hm1, ?_⟩
        rw [← hhold]
        refine holdL_congr fun c hc x hx => ?_
        have hx0 := ((right_iff.1 (hr c hc)).1 x hx).1
        have hxm := hG c hc x hx
        unfold hlB
        have e3 : (vecB (mostB l) m)[x.natAbs]? = (valsB (mostB l) r.v)[x.natAbs]? := by
          obtain ⟨a, ha⟩ : ∃ a, x.natAbs = a + 1 := ⟨x.natAbs - 1, by omega⟩
          rw [ha]
          unfold vecB
          rw [List.getElem?_cons_succ, List.getElem?_map, List.getElem?_range (by omega)]
          have hb : a + 1 < (valsB (mostB l) r.v).length := by omega
          rw [List.getElem?_eq_getElem hb]
          have := hm2 a _ (by rw [List.getElem?_drop, Nat.add_comm 1 a, List.getElem?_eq_getElem hb])
          rw [← this]
          rfl
        rw [e3]
    | false =>
      rw [if_neg (by decide)]
      obtain ⟨_, hbad⟩ := P.no hfd
      obtain ⟨b1, b2⟩ := hbad ht
      have hempty : r.s.all.getD r.at_ [] = [] := by
        refine List.eq_nil_iff_forall_not_mem.2 fun y hy => ?_
        have := b2 y hy
        have hz : lv zerosV y = 0 := by
          unfold lv zerosV
          rw [List.getD_eq_getElem?_getD, List.getElem?_replicate]
          split <;> split <;> rfl
        omega
      have hmem : ([] : Cls) ∈ r.s.all := by
        rw [List.getD_eq_getElem?_getD, List.getElem?_eq_getElem b1] at hempty
        simp only [Option.getD_some] at hempty
        rw [← hempty]
        exact List.getElem_mem b1
      have hun : ∀ v, holdL v l = false := fun v => by
        cases hv : holdL v l with
        | false => rfl
        | true =>
          have := P.inv.repl.holds hr hv
          unfold holdL at this
          have := List.all_eq_true.1 this [] hmem
          exact absurd (show false = true from this) (by decide)
      have htr : (trimB l r.s.proof).2 = 0 := by
        have hrb := replB_ok h0 P.inv.few P.inv.repl
        have hnb : (needB l r.s.proof).2 = 0 := by
          unfold needB
          rw [hrb]
          show (if (0 : Int) ≠ 0 then (([], 0) : List Bool × Int) else _).2 = 0
          rw [if_neg (fun e => e rfl)]
          show (match firstE (l ++ r.s.all.drop l.length) with | none => (([], 271) : List Bool × Int) | some f => _).2 = 0
          obtain ⟨q, hq⟩ := P.inv.repl.pre
          rw [← hq, List.drop_left, hq]
          cases hfe : firstE r.s.all with
          | none => exact absurd rfl (firstE_none hfe [] hmem)
          | some f => rfl
        unfold trimB
        rw [if_neg (fun e => e hnb)]
      obtain ⟨all, made, t1, t2, t3, t4, t5, t6, t7, t8⟩ := trim_law htr
      refine ⟨.inl htr, fun e => ?_, (fun _ e => by cases e), fun _ _ => ⟨rfl, hun, ?_, r.s.proof, made, rfl, htr, t2, by simp only; have := P.inv.few; omega, t6, t5, t8⟩⟩
      · simp only at e; omega
      · unfold canB
        rw [List.any_eq_false]
        intro m _
        rw [hun]
        decide
  · rw [if_pos ht]
    refine ⟨P.tr, fun e => ?_, (fun e => absurd e ht), (fun e => absurd e ht)⟩
    have := P.out e
    have h2 : 2 ^ freeN (mostB l) zerosV ≤ 2 ^ mostB l := Nat.pow_le_pow_right (by decide) hz
    omega
end Go.Proofs.Ytggfjfmgclcnlaa.Z
