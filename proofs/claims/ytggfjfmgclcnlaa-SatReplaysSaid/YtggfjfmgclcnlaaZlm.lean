/- What assign does to the counts of the solver, in plain.  No program in sight. -/
import Derived.Test.YtggfjfmgclcnlaaZa
import Derived.Test.YtggfjfmgclcnlaaZjk
import Derived.Test.YtggfjfmgclcnlaaMpi
import Derived.Deep.RegionHeld3
namespace Go.Proofs.Ytggfjfmgclcnlaa.Z
set_option linter.unusedSimpArgs false
set_option linter.unusedVariables false

/-- a number added at each of some places, one after the other -/
def addAt (by_ : Int) : List Int → List Nat → List Int
  | r, [] => r
  | r, i :: is => addAt by_ (r.set i (r.getD i 0 + by_)) is
theorem addAt_len (b : Int) : ∀ (is : List Nat) (r : List Int), (addAt b r is).length = r.length
  | [], r => rfl
  | i :: is, r => by rw [addAt, addAt_len b is, List.length_set]
theorem addAt_get (b : Int) (j : Nat) : ∀ (is : List Nat) (r : List Int), j < r.length → (addAt b r is).getD j 0 = r.getD j 0 + b * (is.count j : Nat)
  | [], r, _ => by simp [addAt]
  | i :: is, r, h => by
    rw [addAt, addAt_get b j is _ (by rw [List.length_set]; exact h), List.count_cons]
    simp only [List.getD_eq_getElem?_getD, List.getElem?_set]
    by_cases e : i = j
    · subst e
      simp [h, Int.mul_add]
      omega
    · have e2 : (i == j) = false := beq_eq_false_iff_ne.2 e
      simp [e]
/-- the clauses that have a literal, from one on -/
def occF (x : Int) : List Cls → Nat → List Nat
  | [], _ => []
  | c :: r, i => List.replicate (c.count x) i ++ occF x r (i + 1)
theorem occF_lt (x : Int) : ∀ (l : List Cls) (i k : Nat), k ∈ occF x l i → i ≤ k ∧ k < i + l.length
  | [], _, _, h => by cases h
  | c :: r, i, k, h => by
    rcases List.mem_append.1 h with h | h
    · rw [List.eq_of_mem_replicate h, List.length_cons]; omega
    · have := occF_lt x r (i + 1) k h
      rw [List.length_cons]; omega
theorem occF_count (x : Int) : ∀ (l : List Cls) (i j : Nat) (hj : j < l.length), (occF x l i).count (i + j) = (l[j]'hj).count x
  | c :: r, i, j, hj => by
    rw [occF, List.count_append]
    cases j with
    | zero =>
      have h0 : (occF x r (i + 1)).count (i + 0) = 0 := List.count_eq_zero.2 (fun h => by have := (occF_lt x r (i + 1) _ h).1; omega)
      rw [h0, Nat.add_zero, Nat.add_zero, List.count_replicate_self]
      rfl
    | succ j =>
      have h0 : (List.replicate (c.count x) i).count (i + (j + 1)) = 0 := List.count_eq_zero.2 (fun h => by have := List.eq_of_mem_replicate h; omega)
      rw [h0, Nat.zero_add, show i + (j + 1) = i + 1 + j by omega]
      exact occF_count x r (i + 1) j (by simpa using hj)
/-- a literal of a clause after a literal was made to hold -/
theorem lv_set_cases {v : List Int} (hv : Vok v) {x : Int} (h0 : x ≠ 0) (h60 : x.natAbs ≤ 60) (y : Int) : (y = x ∧ lv (setV v x) y = 1) ∨ (y = -x ∧ y ≠ x ∧ lv (setV v x) y = -1) ∨ (y ≠ x ∧ y ≠ -x ∧ lv (setV v x) y = lv v y) := by
  by_cases e : y = x
  · subst e; exact .inl ⟨rfl, lv_set_self hv h0 h60⟩
  · by_cases e2 : y = -x
    · subst e2
      refine .inr (.inl ⟨rfl, e, ?_⟩)
      rw [lv_neg _ h0, lv_set_self hv h0 h60]
    · exact .inr (.inr ⟨e, e2, lv_set_other (by omega)⟩)
theorem held_set {v : List Int} (hv : Vok v) {x : Int} (h0 : x ≠ 0) (h60 : x.natAbs ≤ 60) (hx : lv v x = 0) : ∀ (c : Cls), heldN (setV v x) c = heldN v c + c.count x
  | [] => rfl
  | y :: c => by
    have ih := held_set hv h0 h60 hx c
    unfold heldN at ih ⊢
    rw [List.countP_cons, List.countP_cons, List.count_cons, ih]
    rcases lv_set_cases hv h0 h60 y with ⟨rfl, e⟩ | ⟨rfl, hne, e⟩ | ⟨h1, h2, e⟩
    · rw [e, hx]; simp; omega
    · have : lv v (-x) = 0 := by rw [lv_neg _ h0, hx]; rfl
      rw [e, this]
      have e3 : ((-x) == x) = false := beq_eq_false_iff_ne.2 hne
      rw [e3]; simp
    · rw [e]
      have e3 : (y == x) = false := beq_eq_false_iff_ne.2 h1
      rw [e3]; simp; omega
theorem open_set {v : List Int} (hv : Vok v) {x : Int} (h0 : x ≠ 0) (h60 : x.natAbs ≤ 60) (hx : lv v x = 0) : ∀ (c : Cls), openN (setV v x) c + c.count x + c.count (-x) = openN v c
  | [] => rfl
  | y :: c => by
    have ih := open_set hv h0 h60 hx c
    unfold openN at ih ⊢
    rw [List.countP_cons, List.countP_cons, List.count_cons, List.count_cons, ← ih]
    rcases lv_set_cases hv h0 h60 y with ⟨rfl, e⟩ | ⟨rfl, hne, e⟩ | ⟨h1, h2, e⟩
    · have e3 : (y == -y) = false := beq_eq_false_iff_ne.2 (by omega)
      rw [e, hx, e3]; simp; omega
    · have : lv v (-x) = 0 := by rw [lv_neg _ h0, hx]; rfl
      rw [e, this]
      have e3 : ((-x) == x) = false := beq_eq_false_iff_ne.2 hne
      rw [e3]; simp; omega
    · rw [e]
      have e3 : (y == x) = false := beq_eq_false_iff_ne.2 h1
      have e4 : (y == -x) = false := beq_eq_false_iff_ne.2 h2
      rw [e3, e4]; simp; omega
end Go.Proofs.Ytggfjfmgclcnlaa.Z
namespace Go.Proofs.Ytggfjfmgclcnlaa.Zb
open Go Go.RowKit Go.Shelf Go.Proofs.Ytggfjfmgclcnlaa.K Go.Proofs.Ytggfjfmgclcnlaa.G Go.Proofs.Ytggfjfmgclcnlaa.Z
set_option linter.unusedSimpArgs false
set_option linter.unusedVariables false

/-- the groups of clauses: for each literal, those that have it -/
structure Grp (S : Nat → Prop) (W : World) (mb : Nat) (l : List Cls) : Prop where
  map : ∃ ps, MapIs W mb ps ∧ (∀ e ∈ ps, isI e.1) ∧ ∀ y : Int, ∃ A c, (assocV eqI (.int .i64 y) ps).getD (.slice none 0 0) = .slice A (occF y l 0).length c ∧ C kI S W A ((occF y l 0).map (fun i : Nat => (i : Int)))
theorem Grp.chg {S T : Nat → Prop} {W W' : World} {mb : Nat} {l : List Cls} (h : Grp S W mb l) (hc : Chg T W W') (hm : ¬ T mb) (hS : ∀ k, S k → k < W.heap.size → ¬ T k) : Grp S W' mb l := by
  obtain ⟨ps, h1, h2, h3⟩ := h.map
  exact ⟨ps, h1.chg hc hm, h2, fun y => by
    obtain ⟨A, c, e, hC⟩ := h3 y
    exact ⟨A, c, e, hC.chg hc hS⟩⟩
/-- a row of numbers: one of them turned -/
theorem rowI_set {W : World} {g n i : Nat} {t : TypeId} {r : List Int} (u : Int) (h : W.rowIs g t n (fun j => .int .i64 (r.getD j 0))) (hl : r.length = n) (hi : i < n) : (W.setCell ⟨g, i, none⟩ (.int .i64 u)).rowIs g t n (fun j => .int .i64 ((r.set i u).getD j 0)) := by
  refine (h.set i (.int .i64 u)).congr (fun j hj => ?_)
  simp only [List.getD_eq_getElem?_getD, List.getElem?_set]
  by_cases e : j = i
  · subst e
    rw [if_pos rfl, if_pos rfl, if_pos (by omega)]
    rfl
  · rw [if_neg e, if_neg (fun h => e h.symm)]
def Bnd (m : Int) (r : List Int) : Prop := ∀ y ∈ r, -m ≤ y ∧ y ≤ m
theorem Bnd.get {m : Int} {r : List Int} (h : Bnd m r) (h0 : 0 ≤ m) (i : Nat) : -m ≤ r.getD i 0 ∧ r.getD i 0 ≤ m := by
  rw [List.getD_eq_getElem?_getD]
  cases e : r[i]? with
  | none => simp; omega
  | some y => exact h y (List.mem_of_getElem? e)
theorem Bnd.step {m b : Int} {r : List Int} (h : Bnd m r) (h0 : 0 ≤ m) (hb : -1 ≤ b ∧ b ≤ 1) (i : Nat) : Bnd (m + 1) (r.set i (r.getD i 0 + b)) := fun y hy => by
  rcases List.mem_or_eq_of_mem_set hy with h1 | h1
  · have := h y h1; omega
  · have := h.get h0 i; omega
/-- what the change reads and writes: the solver in block sp, its groups in block mb, its two rows of counts -/
structure ChS (S : Nat → Prop) (w0 W : World) (sp mb gh go bp bx : Nat) (x : Int) (l : List Cls) (hd od : List Int) : Prop where
  pp : W.cell? ⟨bp, 0, none⟩ = some (.pointer (some ⟨sp, 0, none⟩))
  px : W.cell? ⟨bx, 0, none⟩ = some (.int .i64 x)
  c3 : W.cell? ⟨sp, 3, none⟩ = some (.map (some mb))
  c4 : W.cell? ⟨sp, 4, none⟩ = some (.slice (some ⟨gh, 0, none⟩) l.length l.length)
  c5 : W.cell? ⟨sp, 5, none⟩ = some (.slice (some ⟨go, 0, none⟩) l.length l.length)
  grp : Grp S W mb l
  held : W.rowIs gh 3 l.length (fun j => .int .i64 (hd.getD j 0))
  opn : W.rowIs go 3 l.length (fun j => .int .i64 (od.getD j 0))
  lh : hd.length = l.length
  lo : od.length = l.length
  chg : Chg (fun k => k = gh ∨ k = go) w0 W
/-- the blocks are apart -/
structure ChA (S : Nat → Prop) (sp mb gh go bp bx : Nat) : Prop where
  h1 : gh ≠ go
  h2 : sp ≠ gh ∧ sp ≠ go
  h3 : mb ≠ gh ∧ mb ≠ go
  h4 : bp ≠ gh ∧ bp ≠ go
  h5 : bx ≠ gh ∧ bx ≠ go
  hS : ∀ k, S k → k ≠ gh ∧ k ≠ go
theorem ChS.setH {S : Nat → Prop} {w0 W : World} {sp mb gh go bp bx : Nat} {x : Int} {l : List Cls} {hd od : List Int} (h : ChS S w0 W sp mb gh go bp bx x l hd od) (ha : ChA S sp mb gh go bp bx) (i : Nat) (hi : i < l.length) (u : Int) :
    ChS S w0 (W.setCell ⟨gh, i, none⟩ (.int .i64 u)) sp mb gh go bp bx x l (hd.set i u) od := by
  have hc : Chg (fun k => k = gh) W (W.setCell ⟨gh, i, none⟩ (.int .i64 u)) := Chg.setCell (T := fun k => k = gh) (p := ⟨gh, i, none⟩) rfl _
  exact ⟨hc.cell h.pp ha.h4.1, hc.cell h.px ha.h5.1, hc.cell h.c3 ha.h2.1, hc.cell h.c4 ha.h2.1, hc.cell h.c5 ha.h2.1, h.grp.chg hc ha.h3.1 (fun k hk _ => (ha.hS k hk).1), rowI_set u h.held h.lh hi,
    h.opn.setOther (a := ⟨gh, i, none⟩) (fun e => ha.h1 e.symm) _, by rw [List.length_set]; exact h.lh, h.lo, h.chg.trans (hc.mono (fun k e => .inl e))⟩
theorem ChS.setO {S : Nat → Prop} {w0 W : World} {sp mb gh go bp bx : Nat} {x : Int} {l : List Cls} {hd od : List Int} (h : ChS S w0 W sp mb gh go bp bx x l hd od) (ha : ChA S sp mb gh go bp bx) (i : Nat) (hi : i < l.length) (u : Int) :
    ChS S w0 (W.setCell ⟨go, i, none⟩ (.int .i64 u)) sp mb gh go bp bx x l hd (od.set i u) := by
  have hc : Chg (fun k => k = go) W (W.setCell ⟨go, i, none⟩ (.int .i64 u)) := Chg.setCell (T := fun k => k = go) (p := ⟨go, i, none⟩) rfl _
  exact ⟨hc.cell h.pp ha.h4.2, hc.cell h.px ha.h5.2, hc.cell h.c3 ha.h2.2, hc.cell h.c4 ha.h2.2, hc.cell h.c5 ha.h2.2, h.grp.chg hc ha.h3.2 (fun k hk _ => (ha.hS k hk).2),
    h.held.setOther (a := ⟨go, i, none⟩) ha.h1 _, rowI_set u h.opn h.lo hi, h.lh, by rw [List.length_set]; exact h.lo, h.chg.trans (hc.mono (fun k e => .inr e))⟩
end Go.Proofs.Ytggfjfmgclcnlaa.Zb
namespace Go.Proofs.Ytggfjfmgclcnlaa.Zb
open Go Go.RowKit Go.Shelf Go.Proofs.Ytggfjfmgclcnlaa.K Go.Proofs.Ytggfjfmgclcnlaa.G Go.Proofs.Ytggfjfmgclcnlaa.Z
set_option linter.unusedSimpArgs false
set_option linter.unusedVariables false

theorem ChS.drew {S : Nat → Prop} {w0 W : World} {sp mb gh go bp bx : Nat} {x : Int} {l : List Cls} {hd od : List Int} (h : ChS S w0 W sp mb gh go bp bx x l hd od) : ChS S w0 W.drew sp mb gh go bp bx x l hd od :=
  ⟨h.pp, h.px, h.c3, h.c4, h.c5, h.grp.chg (Chg.drew (fun _ => False) W) (fun e => e) (fun _ _ _ e => e), h.held, h.opn, h.lh, h.lo, h.chg.trans (Chg.drew _ _)⟩
theorem litI_law : KeyLaw Try.prog 75 isI eqI := int_law Try.underlying75
theorem zero_ints (w : World) : (zeroValue 44).run Try.prog w = .ok (.slice none 0 0) w := by kernel_rfl
set_option maxRecDepth 100000 in
set_option maxHeartbeats 4000000 in
theorem change_calls (S : Nat → Prop) (w : World) (sp mb gh go bp bx : Nat) (x : Int) (l : List Cls) (hd od : List Int) (b : Int) (hb : b = 1 ∨ b = -1) (h : ChS S w w sp mb gh go bp bx x l hd od) (ha : ChA S sp mb gh go bp bx) (hl : l.length ≤ 500) (hx : Z.Lit x) (h1 : Bnd 1000 hd) (h2 : Bnd 1000 od) (ho : ∀ y, (occF y l 0).length ≤ 100000) :
    Calls Try.prog 64 #[.int .i64 b, .pointer (some ⟨bp, 0, none⟩), .pointer (some ⟨bx, 0, none⟩)] w fun e w' => e = .returned (.tuple #[]) ∧ ChS S w w' sp mb gh go bp bx x l (addAt b hd (occF x l 0)) (addAt (-b) (addAt (-b) od (occF x l 0)) (occF (-x) l 0)) := by
  have HH := Lib.hid h
  have HA := Lib.hid ha
  obtain ⟨ps, hm, hk, hg⟩ := h.grp.map
  obtain ⟨A1, c1, e1, hC1⟩ := hg x
  obtain ⟨A2, c2, e2, hC2⟩ := hg (-x)
  have pp := h.pp
  have px := h.px
  have c3 := h.c3
  have lk1 := litI_law.lookup (mt := 72) Try.underlying72 hm hk ⟨x, rfl⟩ (zero_ints w) false
  rw [e1] at lk1
  obtain ⟨ox, hox⟩ : ∃ ox, occF x l 0 = ox := ⟨_, rfl⟩
  obtain ⟨oy, hoy⟩ : ∃ oy, occF (-x) l 0 = oy := ⟨_, rfl⟩
  rw [hox] at e1 hC1 ⊢
  rw [hoy] at e2 hC2 ⊢
  have hol : ox.length ≤ 100000 := by rw [← hox]; exact ho x
  have hoyl : oy.length ≤ 100000 := by rw [← hoy]; exact ho (-x)
  have HOl : Hid (∀ i ∈ ox, i < l.length) := Lib.hid (fun i hi => by rw [← hox] at hi; have := (occF_lt x l 0 i hi).2; omega)
  have HOy : Hid (∀ i ∈ oy, i < l.length) := Lib.hid (fun i hi => by rw [← hoy] at hi; have := (occF_lt (-x) l 0 i hi).2; omega)
  have hbb : -1 ≤ b ∧ b ≤ 1 := by omega
  obtain ⟨HDv, hHD⟩ : ∃ q, addAt b hd ox = q := ⟨_, rfl⟩
  obtain ⟨ODv, hOD⟩ : ∃ q, addAt (-b) od ox = q := ⟨_, rfl⟩
  rw [hHD, hOD]
  clear hox
  go_enter Try.func64, Try.ntmps64
  go_upto_region 0 with fail
  have lkd : ∀ W : World, MapIs W mb ps → (Instr.lookup 72 (.map (some mb)) (.int .i64 x) false).run Try.prog W = .ok (.slice A1 ox.length c1) W := fun W hW => by
    have := litI_law.lookup (mt := 72) Try.underlying72 hW hk ⟨x, rfl⟩ (zero_ints W) false
    rw [e1] at this
    exact this
  have lk := lkd w.drew hm
  clear lk1 lkd
  go_region
  go_wp2_with fail
  clear lk
  have hC1d : Hid (∀ W, Chg (fun k => k = gh ∨ k = go) w W → C kI S W A1 (ox.map (fun i : Nat => (i : Int)))) := Lib.hid (fun W hc => hC1.chg hc (fun k hs _ => fun e => e.elim (HA.out.hS k hs).1 (HA.out.hS k hs).2))
  have HD0 := Lib.hid HH.out.drew
  have E1 : Hid (addAt b hd (ox.drop 0) = HDv) := Lib.hid (by rw [List.drop_zero]; exact hHD)
  have E2 : Hid (addAt (-b) od (ox.drop 0) = ODv) := Lib.hid (by rw [List.drop_zero]; exact hOD)
  have B1 := Lib.hid h1
  have B2 := Lib.hid h2
  clear h1 h2 hHD hOD pp px c3 hC1
  go_loopg [15] ox.length (fun gg v wr => ∃ (k : Nat) (r o : List Int), v = .int .i64 k ∧ k ≤ ox.length ∧ ox.length - k ≤ gg ∧ Hid (addAt b r (ox.drop k) = HDv) ∧ Hid (addAt (-b) o (ox.drop k) = ODv) ∧ Hid (Bnd (1000 + k) r) ∧ Hid (Bnd (1000 + k) o) ∧ Hid (ChS S w wr sp mb gh go bp bx x l r o))
  case atStart => exact ⟨0, hd, od, rfl, by omega, by omega, E1, E2, B1, B2, HD0⟩
  case round =>
    clear HD0 E1 E2 B1 B2
    obtain ⟨k, r, o, rfl, hki, hgg, E1, E2, B1, B2, HX⟩ := hrel
    by_cases hlt : k < ox.length
    · have hltz : (k : Int) < (ox.length : Int) := by omega
      have hk0 : (0 : Int) ≤ (k : Int) := by omega
      have Hlt := Lib.hid hlt
      obtain ⟨ba, oa, rfl, hba, p0⟩ := int_at (hC1d.out wr HX.out.chg) k (by rw [List.length_map]; exact hlt)
      rw [List.getElem_map] at p0
      have q1 := E1.out
      have q2 := E2.out
      rw [List.drop_eq_getElem_cons hlt, addAt] at q1 q2
      have hi := HOl.out _ (List.getElem_mem hlt)
      generalize ox[k]'hlt = i at p0 q1 q2 hi
      have Q1 := Lib.hid q1
      have Q2 := Lib.hid q2
      have b1 := B1.out.get (by omega) i
      have b2 := B2.out.get (by omega) i
      have n1 := Lib.hid (B1.out.step (b := b) (by omega) hbb i)
      have n2 := Lib.hid (B2.out.step (b := -b) (by omega) (by omega) i)
      have w1 : IntKind.i64.wrap (r.getD i 0 + b) = r.getD i 0 + b := by rw [IntKind.wrap_i64]; omega
      have w2 : IntKind.i64.wrap (o.getD i 0 - b) = o.getD i 0 + -b := by rw [IntKind.wrap_i64]; omega
      have hi1 : (i : Int) < (l.length : Int) := by omega
      have hi0 : (0 : Int) ≤ (i : Int) := by omega
      have pp := HX.out.pp
      have c4 := HX.out.c4
      have ch := HX.out.held.cell hi
      have fh := HX.out.held.frozen i
      have HX2 := HX.out.setH HA.out i hi (r.getD i 0 + b)
      have HX3 := Lib.hid (HX2.setO HA.out i hi (o.getD i 0 + -b))
      have pp2 := HX2.pp
      have c52 := HX2.c5
      have co := HX2.opn.cell hi
      have fo := HX2.opn.frozen i
      generalize r.getD i 0 = ri at *
      generalize o.getD i 0 = oi at *
      clear q1 q2 E1 E2 B1 B2 b1 b2 HX2 hlt hi
      go_wp2
      go_roundg (ox.length - (k + 1))
      case measure => omega
      case rel => exact ⟨k + 1, _, _, by go_num, Hlt.out, Nat.le_refl _, Q1, Q2, n1, n2, HX3⟩
    · have hltz : ¬ (k : Int) < (ox.length : Int) := by omega
      have q1 := E1.out
      have q2 := E2.out
      rw [List.drop_eq_nil_of_le (by omega), addAt] at q1 q2
      subst q1
      subst q2
      have B2' : Hid (Bnd 200000 o) := Lib.hid (fun y hy => by have := B2.out y hy; omega)
      have pp := HX.out.pp
      have px := HX.out.px
      have c3 := HX.out.c3
      have wn : IntKind.i64.wrap (-x) = -x := by obtain ⟨x0, x1, x2⟩ := hx; rw [IntKind.wrap_i64]; omega
      obtain ⟨ps2, hm2, hk2, hg2⟩ := HX.out.grp.map
      obtain ⟨A3, c6, e6, hC6⟩ := hg2 (-x)
      rw [hoy] at e6 hC6
      have lk2 : ∀ W : World, MapIs W mb ps2 → (Instr.lookup 72 (.map (some mb)) (.int .i64 (-x)) false).run Try.prog W = .ok (.slice A3 oy.length c6) W := fun W hW => by
        have := litI_law.lookup (mt := 72) Try.underlying72 hW hk2 ⟨-x, rfl⟩ (zero_ints W) false
        rw [e6] at this
        exact this
      have lk := lk2 wr.drew hm2
      have hC6d : Hid (∀ W, Chg (fun k => k = gh ∨ k = go) wr W → C kI S W A3 (oy.map (fun i : Nat => (i : Int)))) := Lib.hid (fun W hc => hC6.chg hc (fun k hs _ => fun e => e.elim (HA.out.hS k hs).1 (HA.out.hS k hs).2))
      have HX0 := Lib.hid HX.out.drew
      have HXw := Lib.hid HX.out
      clear lk2 e6 hC6 hm2 hk2 hg2 hlt E1 E2 B1 B2 HX
      go_upto_region 6 with fail
      go_region
      go_wp2_with fail
      obtain ⟨OEv, hOE⟩ : ∃ q, addAt (-b) o oy = q := ⟨_, rfl⟩
      have E2 : Hid (addAt (-b) o (oy.drop 0) = addAt (-b) o oy) := Lib.hid (by rw [List.drop_zero])
      have B2 : Hid (Bnd (200000 + (0 : Nat)) o) := Lib.hid (fun y hy => by have := B2'.out y hy; omega)
      clear pp px c3 lk wn B2' hOE
      go_loopg [48] oy.length (fun gg v wr2 => ∃ (k2 : Nat) (o2 : List Int), v = .int .i64 k2 ∧ k2 ≤ oy.length ∧ oy.length - k2 ≤ gg ∧ Hid (addAt (-b) o2 (oy.drop k2) = addAt (-b) o oy) ∧ Hid (Bnd (200000 + k2) o2) ∧ Hid (ChS S w wr2 sp mb gh go bp bx x l r o2) ∧ Hid (Chg (fun k => k = gh ∨ k = go) wr wr2))
      case atStart => exact ⟨0, o, rfl, by omega, by omega, E2, B2, HX0, Lib.hid (Chg.drew _ _)⟩
      case round =>
        clear E2 B2 HX0
        obtain ⟨k2, o2, rfl, hki2, hgg2, E2, B2, HX, HC⟩ := hrel
        by_cases hlt : k2 < oy.length
        · have hltz2 : (k2 : Int) < (oy.length : Int) := by omega
          have hk0 : (0 : Int) ≤ (k2 : Int) := by omega
          have Hlt := Lib.hid hlt
          obtain ⟨ba, oa, rfl, hba, p0⟩ := int_at (hC6d.out _ HC.out) k2 (by rw [List.length_map]; exact hlt)
          rw [List.getElem_map] at p0
          have q2 := E2.out
          rw [List.drop_eq_getElem_cons hlt, addAt] at q2
          have hi := HOy.out _ (List.getElem_mem hlt)
          generalize oy[k2]'hlt = i at p0 q2 hi
          have Q2 := Lib.hid q2
          have b2 := B2.out.get (by omega) i
          have n2 := Lib.hid (B2.out.step (b := -b) (by omega) (by omega) i)
          have w2 : IntKind.i64.wrap (o2.getD i 0 - b) = o2.getD i 0 + -b := by rw [IntKind.wrap_i64]; omega
          have hi1 : (i : Int) < (l.length : Int) := by omega
          have hi0 : (0 : Int) ≤ (i : Int) := by omega
          have pp := HX.out.pp
          have c5 := HX.out.c5
          have co := HX.out.opn.cell hi
          have fo := HX.out.opn.frozen i
          have HX3 := Lib.hid (HX.out.setO HA.out i hi (o2.getD i 0 + -b))
          have HC3 := Lib.hid (HC.out.trans (Chg.setCell (T := fun k => k = gh ∨ k = go) (p := ⟨go, i, none⟩) (.inr rfl) (.int .i64 (o2.getD i 0 + -b))))
          generalize o2.getD i 0 = oi at *
          clear q2 E2 B2 b2 HX HC hlt hi
          go_wp2
          go_roundg (oy.length - (k2 + 1))
          case measure => omega
          case rel => exact ⟨k2 + 1, _, by go_num, Hlt.out, Nat.le_refl _, Q2, n2, HX3, HC3⟩
        · have hltz2 : ¬ (k2 : Int) < (oy.length : Int) := by omega
          have q2 := E2.out
          rw [List.drop_eq_nil_of_le (by omega), addAt] at q2
          rw [q2] at HX
          have hfin := HX.out
          clear E2 B2 HX HC q2 hlt
          go_wp2
          go_end0
          exact ⟨rfl, hfin⟩
end Go.Proofs.Ytggfjfmgclcnlaa.Zb
