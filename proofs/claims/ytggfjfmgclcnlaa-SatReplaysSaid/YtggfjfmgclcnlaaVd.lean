/- Walks of the solver: try. -/
import Derived.Test.YtggfjfmgclcnlaaVc
import Derived.Defers
namespace Go.Proofs.Ytggfjfmgclcnlaa.Zb
open Go Go.RowKit Go.Shelf Go.Proofs.Ytggfjfmgclcnlaa.K Go.Proofs.Ytggfjfmgclcnlaa.G Go.Proofs.Ytggfjfmgclcnlaa.Z
set_option linter.unusedSimpArgs false
set_option linter.unusedVariables false

/-- what a search turns -/
structure Tr (B : Bk) (va vp : Value) (SA : Nat → Prop) (va' vp' : Value) (SA' : Nat → Prop) (w w' : World) : Prop where
  chg : Chg (fun k => k = B.sp ∨ k = B.gh ∨ k = B.go ∨ k = B.gv ∨ va.ownBlock = some k ∨ vp.ownBlock = some k) w w'
  oa : ∀ k, va'.ownBlock = some k → va.ownBlock = some k ∨ w.heap.size ≤ k
  op : ∀ k, vp'.ownBlock = some k → vp.ownBlock = some k ∨ w.heap.size ≤ k
  os : ∀ k, SA' k → SA k ∨ w.heap.size ≤ k
theorem Tr.refl (B : Bk) (va vp : Value) (SA : Nat → Prop) (w : World) : Tr B va vp SA va vp SA w w := ⟨Chg.refl _ _, fun _ => .inl, fun _ => .inl, fun _ => .inl⟩
theorem Tr.trans {B : Bk} {va vp va' vp' va'' vp'' : Value} {SA SA' SA'' : Nat → Prop} {w w' w'' : World} (h : Tr B va vp SA va' vp' SA' w w') (k : Tr B va' vp' SA' va'' vp'' SA'' w' w'') : Tr B va vp SA va'' vp'' SA'' w w'' := by
  refine ⟨h.chg.trans' k.chg (fun i hi => ?_), fun i hi => ?_, fun i hi => ?_, fun i hi => ?_⟩
  · rcases hi with e | e | e | e | e | e
    · exact .inl (.inl e)
    · exact .inl (.inr (.inl e))
    · exact .inl (.inr (.inr (.inl e)))
    · exact .inl (.inr (.inr (.inr (.inl e))))
    · exact (h.oa i e).imp (fun e => .inr (.inr (.inr (.inr (.inl e))))) id
    · exact (h.op i e).imp (fun e => .inr (.inr (.inr (.inr (.inr e))))) id
  · rcases k.oa i hi with e | e
    · exact h.oa i e
    · exact .inr (Nat.le_trans h.chg.size e)
  · rcases k.op i hi with e | e
    · exact h.op i e
    · exact .inr (Nat.le_trans h.chg.size e)
  · rcases k.os i hi with e | e
    · exact h.os i e
    · exact .inr (Nat.le_trans h.chg.size e)
theorem Tr.counts {B : Bk} {va vp : Value} {SA : Nat → Prop} {w w' : World} (h : Chg (fun k => k = B.gh ∨ k = B.go ∨ k = B.gv) w w') : Tr B va vp SA va vp SA w w' :=
  ⟨h.mono (fun k e => by rcases e with e | e | e; exact .inr (.inl e); exact .inr (.inr (.inl e)); exact .inr (.inr (.inr (.inl e)))), fun _ => .inl, fun _ => .inl, fun _ => .inl⟩
theorem Tr.fresh {B : Bk} {va vp : Value} {SA : Nat → Prop} {w w' : World} (h : Below w.heap.size w w') : Tr B va vp SA va vp SA w w' := ⟨Chg.of_fresh h, fun _ => .inl, fun _ => .inl, fun _ => .inl⟩
theorem Tr.boxed {B : Bk} {va vp va' vp' : Value} {SA SA' : Nat → Prop} {w w' : World} (h : Tr B va vp SA va' vp' SA' w w') {b : Nat} (hb : w.heap.size ≤ b) (u : Value) : Tr B va vp SA va' vp' SA' w (w'.setCell ⟨b, 0, none⟩ u) :=
  ⟨h.chg.trans' (Chg.setCell (T := fun k => k = b) (p := ⟨b, 0, none⟩) rfl u) (fun i e => .inr (by rw [e]; exact hb)), h.oa, h.op, h.os⟩
/-- what comes out of a search -/
def SrEnd (B : Bk) (l : List Cls) (r : Res) (va vp : Value) (SA : Nat → Prop) (w : World) (e : Ending) (w' : World) : Prop :=
  e = .returned (.tuple #[.int .i64 (r.at_ : Int), .bool r.fd]) ∧ ∃ va' vp' SA', Sv B l r.v r.s va' vp' SA' w' ∧ Tr B va vp SA va' vp' SA' w w'
theorem Sv.own_lt {B : Bk} {l : List Cls} {v : List Int} {T : SS} {va vp : Value} {SA : Nat → Prop} {W : World} (h : Sv B l v T va vp SA W) : ∀ k, (k = B.sp ∨ k = B.gh ∨ k = B.go ∨ k = B.gv ∨ va.ownBlock = some k ∨ vp.ownBlock = some k) → k < W.heap.size := fun k e => by
  rcases e with e | e | e | e | e | e
  · exact h.H_lt k (.inl e)
  · exact h.H_lt k (.inr (.inr (.inl e)))
  · exact h.H_lt k (.inr (.inr (.inr (.inl e))))
  · exact h.H_lt k (.inr (.inr (.inr (.inr (.inl e)))))
  · exact (h.all.base_le e).2
  · exact (h.prf.base_le e).2
theorem done_deferred (bd bu : Nat) (u : FrameMode) (w : World) (h : w.cell? ⟨bd, 0, none⟩ = some (.bool true)) :
    CallsD Try.prog 59 #[.pointer (some ⟨bd, 0, none⟩), .pointer (some ⟨bu, 0, none⟩)] u w fun e u' w' => u' = u ∧ (e = .returned (.tuple #[]) ∧ w' = w) := by
  go_enter_d Try.func59, Try.ntmps59
  go_wp2
  go_end0
  exact ⟨rfl, rfl⟩
theorem undo_deferred (bd bu bp bx bc : Nat) (u : FrameMode) (w : World) (h : w.cell? ⟨bd, 0, none⟩ = some (.bool false)) (h2 : w.cell? ⟨bu, 0, none⟩ = some (undV bp bx bc)) (R : World → Prop) 
    (hc : Calls Try.prog 65 #[.pointer (some ⟨bp, 0, none⟩), .pointer (some ⟨bx, 0, none⟩), .pointer (some ⟨bc, 0, none⟩)] w fun e w' => e = .returned (.tuple #[]) ∧ R w') :
    CallsD Try.prog 59 #[.pointer (some ⟨bd, 0, none⟩), .pointer (some ⟨bu, 0, none⟩)] u w fun e u' w' => u' = u ∧ (e = .returned (.tuple #[]) ∧ R w') := by
  unfold undV at h2
  go_enter_d Try.func59, Try.ntmps59
  go_wp2_with fail
  refine hc.mono ?_
  rintro e w' ⟨rfl, hR⟩
  go_wp2
  go_end0
  exact ⟨rfl, hR⟩
set_option maxRecDepth 100000 in
set_option maxHeartbeats 4000000 in
theorem try_calls (B : Bk) (hB : B.Ok) (l : List Cls) (v : List Int) (T : SS) (va vp : Value) (SA : Nat → Prop) (x : Int) (r : Res) (w : World) (h : Sv B l v T va vp SA w) (hv : Vok v) (hx : Z.Lit x) (hx0 : lv v x = 0) (hl : l.length ≤ 500) (hr : ∀ c ∈ l, rightC c = true)
    (hs : ∀ W, Sv B l (setV v x) T va vp SA W → Calls Try.prog 36 #[.pointer (some ⟨B.sp, 0, none⟩)] W (SrEnd B l r va vp SA W)) (hno : r.fd = false → r.v = setV v x) :
    Calls Try.prog 46 #[.pointer (some ⟨B.sp, 0, none⟩), .int .i64 x] w (SrEnd B l ⟨r.at_, r.fd, if r.fd then r.v else v, r.s⟩ va vp SA w) := by
  have hmf : ∀ (fn : Fn) (first cap : Array Value) (w : World), (Instr.makeFunc fn first cap).run Try.prog w = .ok (.func fn first cap) w := fun _ _ _ _ => rfl
  have HA := Lib.hid (assign_calls B hB l v T va vp SA x w h hv hx hx0 hl hr)
  have HU := Lib.hid (fun T' va' vp' SA' bp bx bc W hW hu hn => undo_calls B hB l v T' va' vp' SA' x bp bx bc W hW hu hv hx hx0 hl hr hn)
  have HS := Lib.hid hs
  have Hno := Lib.hid hno
  have HSz := Lib.hid h.own_lt
  have HLt := Lib.hid h.H_lt
  have HSA := Lib.hid (fun k (hk : SA k) => (h.sa k hk).1)
  clear h hv hx hx0 hr hs hno
  unfold SrEnd
  dsimp only
  go_enter_defers Try.func46, Try.ntmps46
  go_wp2_with fail
  refine HA.out.mono ?_
  rintro e w1 ⟨bp, bx, bc, rfl, h1, h2, h3, hu, hS, hc⟩
  have h4 : bp < w1.heap.size ∧ bx < w1.heap.size ∧ bc < w1.heap.size := ⟨lt_of_cell hu.cp, lt_of_cell hu.cx, lt_of_cell hu.cc⟩
  have HC1 := Lib.hid hc
  have HU1 := Lib.hid hu
  have HS1 := Lib.hid hS
  clear hc hu hS HA
  unfold undV
  go_wp2_with fail
  have hn1 := HC1.out.size
  have b2 : Below w1.heap.size w1 ((w1.alloc (.cells #[.func (.func 65) #[] #[.pointer (some ⟨bp, 0, none⟩), .pointer (some ⟨bx, 0, none⟩), .pointer (some ⟨bc, 0, none⟩)]] 1)).alloc (.cells #[.bool false] 4)) := ((Below.refl _ _).alloc (Nat.le_refl _) _).alloc (by simp) _
  have gu : ((w1.alloc (.cells #[.func (.func 65) #[] #[.pointer (some ⟨bp, 0, none⟩), .pointer (some ⟨bx, 0, none⟩), .pointer (some ⟨bc, 0, none⟩)]] 1)).alloc (.cells #[.bool false] 4)).cell? ⟨w1.heap.size, 0, none⟩ = some (undV bp bx bc) := (cell_old _ _ _ _ (by simp)).trans (cell_at _ _ _ _ rfl)
  have gd : ((w1.alloc (.cells #[.func (.func 65) #[] #[.pointer (some ⟨bp, 0, none⟩), .pointer (some ⟨bx, 0, none⟩), .pointer (some ⟨bc, 0, none⟩)]] 1)).alloc (.cells #[.bool false] 4)).cell? ⟨w1.heap.size + 1, 0, none⟩ = some (.bool false) := cell_at _ _ _ _ (by simp)
  have gf : ((w1.alloc (.cells #[.func (.func 65) #[] #[.pointer (some ⟨bp, 0, none⟩), .pointer (some ⟨bx, 0, none⟩), .pointer (some ⟨bc, 0, none⟩)]] 1)).alloc (.cells #[.bool false] 4)).frozen? ⟨w1.heap.size + 1, 0, none⟩ = false := frozen_at _ _ _ _ _ (by simp)
  have gs : w1.heap.size + 1 < ((w1.alloc (.cells #[.func (.func 65) #[] #[.pointer (some ⟨bp, 0, none⟩), .pointer (some ⟨bx, 0, none⟩), .pointer (some ⟨bc, 0, none⟩)]] 1)).alloc (.cells #[.bool false] 4)).heap.size := by simp
  generalize (w1.alloc (.cells #[.func (.func 65) #[] #[.pointer (some ⟨bp, 0, none⟩), .pointer (some ⟨bx, 0, none⟩), .pointer (some ⟨bc, 0, none⟩)]] 1)).alloc (.cells #[.bool false] 4) = W2 at b2 gu gd gf gs ⊢
  have HS2 := HS1.out.below b2
  have HU2 := Lib.hid (HU1.out.chg (Tt := fun _ => False) (Chg.of_fresh b2) (fun e => e) (fun e => e) (fun e => e))
  have HTr2 := Lib.hid ((Tr.counts (va := va) (vp := vp) (SA := SA) HC1.out).trans (Tr.fresh b2))
  have Gd := Lib.hid gd
  have Gu := Lib.hid gu
  have Gf := Lib.hid gf
  have HT : Hid (∀ k, w.heap.size ≤ k → ¬ (k = B.sp ∨ k = B.gh ∨ k = B.go ∨ k = B.gv ∨ va.ownBlock = some k ∨ vp.ownBlock = some k)) := Lib.hid (fun k hk e => by have := HSz.out k e; omega)
  have HH : Hid (∀ k, w.heap.size ≤ k → ¬ B.H k) := Lib.hid (fun k hk e => by have := HLt.out k e; omega)
  have Hn : Hid (w.heap.size ≤ w1.heap.size ∧ w.heap.size ≤ w1.heap.size + 1) := Lib.hid (by omega)
  have Hs2 := Lib.hid gs
  clear gd gu gf HU1 b2 HS1 HC1 hn1 HSz HLt gs
  refine (HS.out W2 HS2).mono ?_
  rintro e w3 ⟨rfl, va', vp', SA', hS3, hT3⟩
  have HS3 := Lib.hid hS3
  have HTr3 := Lib.hid (HTr2.out.trans hT3)
  have gd := hT3.chg.cell Gd.out (HT.out _ Hn.out.2)
  have gu := hT3.chg.cell Gu.out (HT.out _ Hn.out.1)
  have gf := (frozen_of (hT3.chg.block _ Hs2.out (HT.out _ Hn.out.2))).trans Gf.out
  have Hh : Hid (¬ B.H w1.heap.size ∧ ¬ B.H (w1.heap.size + 1)) := Lib.hid ⟨HH.out _ Hn.out.1, HH.out _ Hn.out.2⟩
  have HU3 := Lib.hid (HU2.out.chg hT3.chg (HT.out _ h1) (HT.out _ h2) (HT.out _ h3))
  have Hnn : Hid (∀ k, (k = bp ∨ k = bx ∨ k = bc) → ¬ B.H k) := Lib.hid (by rintro k (rfl | rfl | rfl); exact HH.out _ h1; exact HH.out _ h2; exact HH.out _ h3)
  have hF : ¬ SA' (w1.heap.size + 1) ∧ va'.ownBlock ≠ some (w1.heap.size + 1) ∧ vp'.ownBlock ≠ some (w1.heap.size + 1) := by
    have e1 := Hs2.out
    refine ⟨fun e => ?_, fun e => ?_, fun e => ?_⟩
    · rcases hT3.os _ e with e2 | e2
      · have := HSA.out _ e2; have := Hn.out; omega
      · omega
    · rcases hT3.oa _ e with e2 | e2
      · exact HT.out _ Hn.out.2 (.inr (.inr (.inr (.inr (.inl e2)))))
      · omega
    · rcases hT3.op _ e with e2 | e2
      · exact HT.out _ Hn.out.2 (.inr (.inr (.inr (.inr (.inr e2)))))
      · omega
  have HFb : Hid (bp ≠ w1.heap.size + 1 ∧ bx ≠ w1.heap.size + 1 ∧ bc ≠ w1.heap.size + 1) := Lib.hid (by have := h4; omega)
  clear hS3 hT3 HS2 HTr2 HU2 HS h1 h2 h3 h4
  generalize w1.heap.size = n1 at *
  obtain ⟨ra, rf, rv, rs⟩ := r
  dsimp only at *
  have HFr := Lib.hid hF
  clear hF
  cases rf with
  | true =>
    go_wp2_with fail
    refine leaves_cons (f := 59) (args := #[.pointer (some ⟨n1 + 1, 0, none⟩), .pointer (some ⟨n1, 0, none⟩)]) (by simp) (by simp [go_sem]) ?_
    refine (done_deferred (n1 + 1) n1 .returning _ (World.cell?_setCell_same _ _ _ gd)).mono ?_
    rintro e u' w'' ⟨rfl, rfl, rfl⟩
    exact ⟨_, results_tmp2 rfl _ _ _, rfl, va', vp', SA', HS3.out.other (Chg.setCell (T := fun k => k = n1 + 1) (p := ⟨n1 + 1, 0, none⟩) rfl _) (fun k e => by subst e; exact ⟨Hh.out.2, HFr.out⟩), HTr3.out.boxed Hn.out.2 _⟩
  | false =>
    have hv9 := Hno.out rfl
    subst hv9
    go_wp2_with fail
    refine leaves_cons (f := 59) (args := #[.pointer (some ⟨n1 + 1, 0, none⟩), .pointer (some ⟨n1, 0, none⟩)]) (by simp) (by simp [go_sem]) ?_
    have hcs : Chg (fun k => k = n1 + 1) w3 (w3.setCell ⟨n1 + 1, 0, none⟩ (.bool false)) := Chg.setCell (T := fun k => k = n1 + 1) (p := ⟨n1 + 1, 0, none⟩) rfl _
    have hS4 := HS3.out.other hcs (fun k e => by subst e; exact ⟨Hh.out.2, HFr.out⟩)
    refine (undo_deferred (n1 + 1) n1 bp bx bc .returning _ (World.cell?_setCell_same _ _ _ gd) (hcs.cell gu (by simp)) _ (HU.out _ _ _ _ bp bx bc _ hS4 (HU3.out.chg hcs HFb.out.1 HFb.out.2.1 HFb.out.2.2) Hnn.out)).mono ?_
    rintro e u' w'' ⟨rfl, rfl, hS5, hc5⟩
    exact ⟨_, results_tmp2 rfl _ _ _, rfl, va', vp', SA', hS5, (HTr3.out.boxed Hn.out.2 _).trans (Tr.counts hc5)⟩
end Go.Proofs.Ytggfjfmgclcnlaa.Zb
