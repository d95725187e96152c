/- Walk: scan. -/
import Derived.Test.YtmkfeanggmjhmaaS9
import Derived.Maps.OwnIn
namespace Go.Proofs.Ytmkfeanggmjhmaa.S
open Go Go.RowKit Go.Shelf Go.Proofs.YtmkfeanggmjhmaaW.PrintWords Go.Proofs.YtmkfeanggmjhmaaW.PrintLast Go.Proofs.YtmkfeanggmjhmaaW.PrintMore
open Go.Proofs.Ytmkfeanggmjhmaa.M Go.Proofs.Ytmkfeanggmjhmaa.K
set_option linter.unusedSimpArgs false
set_option linter.unusedVariables false
attribute [local go_sem] Oper.semAt_some

theorem tok_info : (Try.prog.info? 36).map (fun i => (i.zero, i.size, i.bytes)) = some (some (.agg #[.int .i64 0, .string ⟨#[]⟩, .int .i64 0]), 3, 32) := by kernel_rfl

theorem toks_new (W : World) (x : Tok) : ∀ j u, (tokCells x)[j]? = some u → (W.alloc (.cells #[.int .i64 x.kind, .string x.text, .int .i64 x.at_] 36)).cell? ((⟨W.heap.size, 0, none⟩ : Addr).add j) = some u := by
  intro j u hj
  have h := cells_at W #[.int .i64 x.kind, .string x.text, .int .i64 x.at_] 36 W.heap.size j rfl
  have e : ((⟨W.heap.size, 0, none⟩ : Addr).add j) = ⟨W.heap.size, j, none⟩ := by cases j <;> simp [Addr.add]
  rw [e, h]
  simpa [tokCells] using hj

/-- how scan ends: v holds the tokens xs -/
def ScanEnd (sc : List Tok × Option (Nat × Int)) (w : World) (r : Ending) (w' : World) : Prop :=
  ∃ v xs q c, r = .returned (.tuple #[v, .int .i64 q, .int .i64 c]) ∧ w'.ownsRow w.heap.size 36 3 v xs.length (xs.flatMap tokCells) ∧
    (sc = (xs, none) ∧ q = 0 ∧ c = 0 ∨ ∃ pre q', sc = (pre, some (q', c)) ∧ q = (q' : Nat) ∧ xs = []) ∧ Below w.heap.size w w'

/-- what lies between two rounds: the box of the result holds a row of the tokens; the boxes of the place and of the error are as they were made -/
def ScanI (b : Nat) (w W0 : World) (pre : List Tok) (M : Nat → Prop) (W : World) : Prop :=
  ∃ v, W.cell? ⟨b, 0, none⟩ = some v ∧ W.frozen? ⟨b, 0, none⟩ = false ∧ (∀ k, M k ↔ (k = b ∨ v.ownBlock = some k)) ∧ W.ownsRow W0.heap.size 36 3 v pre.length (pre.flatMap tokCells) ∧
    W.cell? ⟨b + 1, 0, none⟩ = some (.int .i64 0) ∧ W.frozen? ⟨b + 1, 0, none⟩ = false ∧ W.cell? ⟨b + 2, 0, none⟩ = some (.int .i64 0) ∧ W.frozen? ⟨b + 2, 0, none⟩ = false ∧ Below b w W ∧ W0.heap.size ≤ W.heap.size

theorem Chg.frozen {T : Nat → Prop} {A B : World} (h : Chg T A B) {b off : Nat} {v : Value} (hv : A.cell? ⟨b, off, none⟩ = some v) (hf : A.frozen? ⟨b, off, none⟩ = false) (hn : ¬ T b) : B.frozen? ⟨b, off, none⟩ = false := by
  rw [← hf]; exact World.frozen?_of_block (h.block _ (lt_of_cell hv) hn)

theorem own_slice {w : World} {base : Nat} {e : TypeId} {size n : Nat} {v : Value} {xs : List Value} (h : w.ownsRow base e size v n xs) : ∃ A c, v = .slice A n c := by
  rcases h.2 with ⟨rfl, rfl⟩ | ⟨g, cap, cur, rfl, _⟩
  · exact ⟨_, _, rfl⟩
  · exact ⟨_, _, rfl⟩

theorem ScanI.chg {b : Nat} {w W0 : World} {pre : List Tok} {M : Nat → Prop} {A B : World} {T : Nat → Prop} (hb : b + 5 ≤ W0.heap.size) (h : ScanI b w W0 pre M A) (hc : Chg T A B) (hT : ∀ k, T k → W0.heap.size ≤ k ∧ ¬ M k) : ScanI b w W0 pre M B := by
  obtain ⟨v, h1, h2, hM, ho, h3, h4, h5, h6, h7, h8⟩ := h
  have n0 : ¬ T b := fun e => by have := (hT _ e).1; omega
  have n1 : ¬ T (b + 1) := fun e => by have := (hT _ e).1; omega
  have n2 : ¬ T (b + 2) := fun e => by have := (hT _ e).1; omega
  refine ⟨v, hc.cell h1 n0, Chg.frozen hc h1 h2 n0, hM, ?_, hc.cell h3 n1, Chg.frozen hc h3 h4 n1, hc.cell h5 n2, Chg.frozen hc h5 h6 n2, h7.trans (hc.below (by omega) (fun k hk => by have := (hT _ hk).1; omega)), by have := hc.size; omega⟩
  exact own_move ho (fun k hk => hc.block k (own_lt ho k hk) (fun e => (hT k e).2 ((hM k).2 (.inr hk))))

set_option maxHeartbeats 4000000 in
theorem scan_calls (bm n : Nat) (p : List UInt8 → Bool) (s : ByteArray) (w : World) (hk : KwSet w bm n p) (hs : s.size ≤ 1000000000) :
    Calls Try.prog 23 #[.map (some bm), .string s] w (ScanEnd (scanE p s) w) := by
  have hbm : bm < w.heap.size := hk.lt
  have hmf : ∀ (fn : Fn) (first cap : Array Value) (w : World), (Instr.makeFunc fn first cap).run Try.prog w = .ok (.func fn first cap) w := fun _ _ _ _ => rfl
  have HT := Lib.hid (fun bx w => tokens_calls bx w)
  generalize hSC : scanE p s = SC
  have HSC := Lib.hid hSC
  clear hSC
  refine (callsIn_wide (n := 0)).1 ?_
  refine callsIn_of_wp_marks Try.func23 rfl trivial ?_ rfl
  simp only [Try.ntmps23, List.size_toArray, List.length_cons, List.length_nil, Nat.reduceAdd, Nat.reduceSub, Array.replicate_succ, Array.replicate_zero, List.push_toArray, List.append_toArray, List.nil_append, List.cons_append]
  gi_wp2
  refine ⟨trivial, rfl, ?_⟩
  refine (callsIn_wide.2 (HT.out _ _)).mono ?_
  rintro e w1 ⟨rfl, rfl⟩
  gi_wp2
  obtain ⟨W3, hW3⟩ : ∃ W3, ((w.alloc (.cells #[.slice none 0 0] 27)).alloc (.cells #[.int .i64 0] 3)).alloc (.cells #[.int .i64 0] 25) = W3 := ⟨_, rfl⟩
  obtain ⟨W0, hW0⟩ : ∃ W0, (W3.alloc (.cells #[.map (some bm), .string s] 68)).alloc (.cells #[.pointer (some ⟨w.heap.size + 1 + 1 + 1, 0, none⟩)] 66) = W0 := ⟨_, rfl⟩
  have hs3 : W3.heap.size = w.heap.size + 3 := by rw [← hW3]; simp
  have hs0 : W0.heap.size = w.heap.size + 5 := by rw [← hW0]; simp; omega
  have hc3 : Chg (fun _ => False) w W3 := by rw [← hW3]; exact ((Chg.alloc _ _ _).trans (Chg.alloc _ _ _)).trans (Chg.alloc _ _ _)
  have hc30 : Chg (fun _ => False) W3 W0 := by rw [← hW0]; exact (Chg.alloc _ _ _).trans (Chg.alloc _ _ _)
  have hk0 : KwSet W0 bm n p := hk.chg (hc3.trans hc30) (fun e => e)
  have hb0 : Below w.heap.size w W0 := (hc3.trans hc30).below (Nat.le_refl _) (fun _ h => h.elim)
  have ca : W3.cell? ⟨w.heap.size, 0, none⟩ = some (.slice none 0 0) := by rw [← hW3, cell_old _ _ _ _ (by simp; omega), cell_old _ _ _ _ (by simp)]; exact cells_at w _ _ _ 0 rfl
  have fa : W3.frozen? ⟨w.heap.size, 0, none⟩ = false := by rw [← hW3, frozen_old _ _ _ _ (by simp; omega), frozen_old _ _ _ _ (by simp)]; exact frozen_at w _ _ _ 0 rfl
  have cb : W3.cell? ⟨w.heap.size + 1, 0, none⟩ = some (.int .i64 0) := by rw [← hW3, cell_old _ _ _ _ (by simp)]; exact cells_at _ _ _ _ 0 (by simp)
  have fb : W3.frozen? ⟨w.heap.size + 1, 0, none⟩ = false := by rw [← hW3, frozen_old _ _ _ _ (by simp)]; exact frozen_at _ _ _ _ 0 (by simp)
  have cc : W3.cell? ⟨w.heap.size + 2, 0, none⟩ = some (.int .i64 0) := by rw [← hW3]; exact cells_at _ _ _ _ 0 (by simp)
  have fc : W3.frozen? ⟨w.heap.size + 2, 0, none⟩ = false := by rw [← hW3]; exact frozen_at _ _ _ _ 0 (by simp)
  have cd0 : W0.cell? ⟨w.heap.size + 3, 0, none⟩ = some (.map (some bm)) := by rw [← hW0, cell_old _ _ _ _ (by simp; omega)]; exact cells_at _ _ _ _ 0 (by omega)
  have cd1 : W0.cell? ⟨w.heap.size + 3, 1, none⟩ = some (.string s) := by rw [← hW0, cell_old _ _ _ _ (by simp; omega)]; exact cells_at _ _ _ _ 1 (by omega)
  have ce : W0.cell? ⟨w.heap.size + 4, 0, none⟩ = some (.pointer (some ⟨w.heap.size + 3, 0, none⟩)) := by rw [← hW0]; exact cells_at _ _ _ _ 0 (by simp; omega)
  have hI0 : ScanI w.heap.size w W0 [] (fun k => k = w.heap.size) W0 :=
    ⟨_, hc30.cell ca (fun e => e), Chg.frozen hc30 ca fa (fun e => e), fun k => by simp [Value.ownBlock], World.ownsRow_nil _ _ _ _, hc30.cell cb (fun e => e), Chg.frozen hc30 cb fb (fun e => e), hc30.cell cc (fun e => e), Chg.frozen hc30 cc fc (fun e => e), hb0, Nat.le_refl _⟩
  rw [hW3, hW0]
  clear hW3 hW0 ca fa cb fb cc fc hc3 hc30 hs3 hk HT
  have hinfo := tok_info
  obtain ⟨i0, hi, hzz⟩ := Option.map_eq_some_iff.1 hinfo
  simp only [Prod.mk.injEq] at hzz
  obtain ⟨hz0, hz1, hz2⟩ := hzz
  have HI := Lib.hid hi
  have HZ0 := Lib.hid hz0
  have HZ1 := Lib.hid hz1
  have HZ2 := Lib.hid hz2
  clear hinfo hi hz0 hz1 hz2
  refine wp_rangeFunc (gf := 55) (lb := #[.pointer (some ⟨w.heap.size + 1 + 1 + 1 + 1, 0, none⟩)]) rfl (enters_of Try.func55 (by kernel_rfl) rfl)
    (fun W1 hc1 _ => tokens_iter (w.heap.size + 4) (w.heap.size + 3) bm n p s W1 (hc1.cell ce (fun e => e)) (hc1.cell cd0 (fun e => e)) (hc1.cell cd1 (fun e => e)) (hk0.chg hc1 (fun e => e)) (by omega))
    ⟨by omega, by omega, by omega⟩ (fun x => rfl) (fun k => k = w.heap.size) (fun k hk => ⟨⟨by omega, by omega, by omega⟩, by omega⟩)
    (ScanI w.heap.size w W0) (fun _ _ _ _ => False)
    (fun pre M A B h hc => ScanI.chg (by omega) h hc (fun k hk => hk)) (fun _ _ _ _ _ h _ => h) ?_ hI0
    (fun x a1 A => ∃ bt, W0.heap.size + 2 ≤ bt ∧ bt < A.heap.size ∧ A.cell? ⟨bt, 0, none⟩ = some (.int .i64 x.kind) ∧ A.cell? ⟨bt, 1, none⟩ = some (.string x.text) ∧ A.cell? ⟨bt, 2, none⟩ = some (.int .i64 x.at_) ∧
      a1 = { tmps := #[.map (some bm), .string s, undef, undef, .pointer (some ⟨w.heap.size, 0, none⟩), .pointer (some ⟨w.heap.size + 1, 0, none⟩), .pointer (some ⟨w.heap.size + 1 + 1, 0, none⟩), .pointer (some ⟨bt, 0, none⟩),
          .func (.func 37) #[] #[.pointer (some ⟨w.heap.size, 0, none⟩), .pointer (some ⟨w.heap.size + 1, 0, none⟩), .pointer (some ⟨w.heap.size + 1 + 1, 0, none⟩)],
          .map (some bm), .string s, .agg #[.map (some bm), .string s], .pointer (some ⟨w.heap.size + 1 + 1 + 1, 0, none⟩), .func (.func 55) #[] #[.pointer (some ⟨w.heap.size + 1 + 1 + 1 + 1, 0, none⟩)],
          .agg #[.int .i64 x.kind, .string x.text, .int .i64 x.at_], undef, undef, undef, undef, undef], defers := [] })
    ?_ ?assign ?body ?done ?stop ?panic
  · rintro pre M A ⟨v, h1, h2, hM, ho, _, _, _, _, _, h8⟩ k hk
    rcases (hM k).1 hk with rfl | h
    · exact lt_of_cell h1
    · exact own_lt ho k h
  · rintro x a1 A B ⟨bt, h1, h2, h3, h4, h5, h6⟩ hc
    exact ⟨bt, h1, by have := hc.size; omega, hc.cell h3 (by show bt ≠ _; omega), hc.cell h4 (by show bt ≠ _; omega), hc.cell h5 (by show bt ≠ _; omega), h6⟩
  case assign =>
    intro l x W hW
    clear hs0
    unfold encT
    gi_wp2
    exact ⟨⟨W.heap.size, hW, by simp, cells_at _ _ _ _ 0 rfl, cells_at _ _ _ _ 1 rfl, cells_at _ _ _ _ 2 rfl, rfl⟩, Chg.alloc _ _ _⟩
  case body =>
    rintro l pre M x a1 sz W hI hMs hlen ⟨bt, hb1, hb2, hx0, hx1, hx2, rfl⟩ hsz hsW
    obtain ⟨v, h1, h2, hM, ho, h3, h4, h5, h6, h7, h8⟩ := hI
    have hne : ∀ k, v.ownBlock = some k → W0.heap.size ≤ k := own_base ho
    have hltk : ∀ k, v.ownBlock = some k → k < W.heap.size := own_lt ho
    have hle : W0.heap.size ≤ W.heap.size := h8
    have HNB : Hid (¬ v.ownBlock = some w.heap.size) := Lib.hid (fun e => by have := hne _ e; omega)
    have HO := Lib.hid ho
    have HM := Lib.hid hM
    have HNE := Lib.hid hne
    have HLT := Lib.hid hltk
    have H7 := Lib.hid h7
    have H8 := Lib.hid h8
    have HS := Lib.hid hs0
    have HMS := Lib.hid hMs
    have hblt : w.heap.size < W.heap.size := by omega
    clear ho hM hne hltk h7 h8 hs0 hMs hk0 hb0 ce cd0 cd1 hI0 hle
    gi_wp2_with (gi_at_builtin; go_loud (refine wpListIn_append_own_at _ rfl _ _ 27 rfl W0.heap.size 36 i0 _ 3 32 Try.underlying27 HI.out HZ0.out HZ1.out HZ2.out rfl (by decide) _ _ _ rfl (HO.out.alloc _) ⟨W.heap.size, 0, none⟩ 1 1 (tokCells x) rfl rfl (toks_new W x) (by simp [tokCells, Value.oneCell']) (by have := hlen; simp only [maxLen]; omega) (by omega) (by have := H8.out; simp; omega) ?_; intro v' w1 hown' hgrow _ hat; obtain ⟨g', cap', rfl⟩ := ownsRow_succ hown'; have hcg : Chg (fun k => v.ownBlock = some k) W w1 := (Chg.alloc _ _ _).trans (Chg.grown hgrow (fun k e => .inl e)); have hc1 := hcg.cell h1 HNB.out; have hf1 := Chg.frozen hcg h1 h2 HNB.out; have Hown := Lib.hid hown'; have Hat := Lib.hid hat; clear hown' hgrow hat))
    have hg' : W0.heap.size ≤ g' := own_base Hown.out g' rfl
    have hC2 : Chg (fun k => k = w.heap.size ∨ v.ownBlock = some k) W (w1.setCell ⟨w.heap.size, 0, none⟩ (.slice (some ⟨g', 0, none⟩) (pre.length + 1) cap')) :=
      (hcg.mono (fun k h => .inr h)).trans (Chg.setCell (p := ⟨w.heap.size, 0, none⟩) (.inl rfl) _)
    have hS := HS.out
    have nb1 : ¬ (w.heap.size + 1 = w.heap.size ∨ v.ownBlock = some (w.heap.size + 1)) := fun e => e.elim (by omega) (fun e => by have := HNE.out _ e; omega)
    have nb2 : ¬ (w.heap.size + 2 = w.heap.size ∨ v.ownBlock = some (w.heap.size + 2)) := fun e => e.elim (by omega) (fun e => by have := HNE.out _ e; omega)
    refine ⟨fun k => k = w.heap.size ∨ k = g', ⟨_, World.cell?_setCell_same' _ _ _ (by rw [hc1]; rfl), by rw [World.frozen?_setCell]; exact hf1, fun k => by simp [Value.ownBlock, eq_comm], ?_, hC2.cell h3 nb1, Chg.frozen hC2 h3 h4 nb1, hC2.cell h5 nb2, Chg.frozen hC2 h5 h6 nb2, ?_, ?_⟩, ?_, ?_⟩
    · have hl : (pre ++ [x]).length = pre.length + 1 := by simp
      have hf : (pre ++ [x]).flatMap tokCells = pre.flatMap tokCells ++ tokCells x := by simp
      rw [hl, hf]
      exact own_move Hown.out (fun k hk => Below.heap_setCell w1 _ _ k (by
        have : g' = k := by simpa [Value.ownBlock] using hk
        show k ≠ w.heap.size
        omega))
    · refine H7.out.trans (hC2.below (by omega) ?_)
      rintro k (rfl | hk)
      · exact Nat.le_refl _
      · have := HNE.out _ hk; omega
    · have := hC2.size; have := H8.out; omega
    · refine hC2.mono ?_
      rintro k (rfl | hk)
      · exact .inl ((HM.out _).2 (.inl rfl))
      · exact .inl ((HM.out _).2 (.inr hk))
    · rintro k (rfl | rfl)
      · exact .inl ((HM.out _).2 (.inl rfl))
      · rcases Hat.out with h | h
        · exact .inl ((HM.out _).2 (.inr (h.symm.trans rfl)))
        · refine .inr ?_
          have : k = W.heap.size + 1 := by simpa [Value.ownBlock] using h
          omega
  case done =>
    rintro D xs M W hD hS hI hK
    have HI2 := Lib.hid hI
    obtain ⟨v, h1, h2, hM, ho, h3, h4, h5, h6, h7, h8⟩ := hI
    obtain ⟨A, cp, rfl⟩ := own_slice ho
    have hsa := setCell_self h1
    have hsb := setCell_self h3
    have hsc := setCell_self h5
    have HO := Lib.hid ho
    have HSx := Lib.hid hS
    have H7 := Lib.hid h7
    have HD := Lib.hid hD
    clear ho hS h7 h8 hM hD hI0 hk0 hb0 ce cd0 cd1
    gi_wp2
    have hc2 : Chg (fun k => k = D) W (W.putObj D (.deferred none)) := Chg.putObj (T := fun k => k = D) rfl _
    have hd := HD.out
    have nD : ∀ k, Value.ownBlock (.slice A xs.length cp) = some k → k ≠ D := fun k hk e => by obtain ⟨cells, hcl⟩ := own_typed HO.out k hk; rw [e, hK] at hcl; cases hcl
    refine ⟨by simp, .inl ⟨D, _, rfl, run_takeDeferred hK, ?_⟩⟩
    refine ⟨by simp, .inr ⟨fun h => by simp [Fence.wide] at h, _, _, 37, #[.pointer (some ⟨w.heap.size, 0, none⟩), .pointer (some ⟨w.heap.size + 1, 0, none⟩), .pointer (some ⟨w.heap.size + 1 + 1, 0, none⟩)], rfl, by simp [go_sem], fun g _ => trivial, ?_⟩⟩
    refine (catch_idle _ _ _ _).mono ?_
    rintro e u' w2 ⟨rfl, rfl, rfl⟩
    have ka := hc2.cell h1 (by show w.heap.size ≠ D; omega)
    have kb := hc2.cell h3 (by show w.heap.size + 1 ≠ D; omega)
    have kc := hc2.cell h5 (by show w.heap.size + 2 ≠ D; omega)
    simp only [LeavesInM, LeavesIn, settle]
    refine ⟨.tuple #[.slice A xs.length cp, .int .i64 0, .int .i64 0], by simp [results, Try.results23, go_sem, ka, kb, kc], _, xs, 0, 0, rfl, ?_, .inl ⟨HSC.out.symm.trans HSx.out, rfl, rfl⟩, ?_⟩
    · exact own_weaken (own_move HO.out (fun k hk => hc2.block k (own_lt HO.out k hk) (nD k hk))) (by omega)
    · exact H7.out.trans (hc2.below (by have := H7.out.size; omega) (fun k hk => by omega))
  case stop =>
    rintro D c pre M W hD _ h _
    exact h.elim
  case panic =>
    rintro D chain pre M W hD ⟨q, c, hq, rfl⟩ hI hK
    obtain ⟨v, h1, h2, hM, ho, h3, h4, h5, h6, h7, h8⟩ := hI
    have hc2 : Chg (fun k => k = D) W (W.putObj D (.deferred none)) := Chg.putObj (T := fun k => k = D) rfl _
    refine ⟨by simp, .inl ⟨D, _, rfl, run_takeDeferred hK, ?_⟩⟩
    refine ⟨by simp, .inr ⟨fun h => by simp [Fence.wide] at h, _, _, 37, #[.pointer (some ⟨w.heap.size, 0, none⟩), .pointer (some ⟨w.heap.size + 1, 0, none⟩), .pointer (some ⟨w.heap.size + 1 + 1, 0, none⟩)], rfl, by simp [go_sem], fun g _ => trivial, ?_⟩⟩
    refine (catch_panicking w.heap.size _ _ _ q c [] _ (hc2.cell h1 (by show w.heap.size ≠ D; omega)) (hc2.cell h3 (by show w.heap.size + 1 ≠ D; omega)) (hc2.cell h5 (by show w.heap.size + 2 ≠ D; omega))
      (Chg.frozen hc2 h1 h2 (by show w.heap.size ≠ D; omega)) (Chg.frozen hc2 h3 h4 (by show w.heap.size + 1 ≠ D; omega)) (Chg.frozen hc2 h5 h6 (by show w.heap.size + 2 ≠ D; omega))).mono ?_
    rintro e u' w2 ⟨rfl, rfl, hc3, hca, hcb, hcc⟩
    simp only [LeavesInM, LeavesIn, settle]
    refine ⟨.tuple #[.slice none 0 0, .int .i64 q, .int .i64 c], by simp [results, Try.results23, go_sem, hca, hcb, hcc], _, [], q, c, rfl, World.ownsRow_nil _ _ _ _, .inr ⟨pre, q, HSC.out.symm.trans hq, rfl, rfl⟩, ?_⟩
    exact h7.trans ((hc2.below (n := w.heap.size) (by have := h7.size; omega) (fun k hk => by omega)).trans (hc3.below (by have := h7.size; have := hc2.size; omega) (fun k hk => by omega)))
end Go.Proofs.Ytmkfeanggmjhmaa.S
