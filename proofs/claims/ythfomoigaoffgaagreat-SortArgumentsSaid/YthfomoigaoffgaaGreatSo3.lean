/- Walks of sort: above, below. -/
import Derived.Test.YthfomoigaoffgaaGreatSo2
import Derived.Sort.LoopGhostIn
namespace Go.Proofs.YthfomoigaoffgaaGreat.So
open Go Go.RowKit Go.Shelf Go.Proofs.YthfomoigaoffgaaGreat.K Go.Proofs.YthfomoigaoffgaaGreat.G Go.Proofs.YthfomoigaoffgaaGreat.Ix Go.Proofs.YthfomoigaoffgaaGreat.O
set_option linter.unusedSimpArgs false
set_option linter.unusedVariables false
attribute [local go_sem] Oper.semAt_some

theorem ab_index (S : Nat → Prop) (r : Raw) (T : Thy) (bw n c b o : Nat) (x : ByteArray) (W : World) (hC : C kCl S W r.a1 T.cls) (hc : T.cls.length ≤ r.c1) (hbw : W.cell? ⟨bw, 0, none⟩ = some (.slice (some ⟨b, o, none⟩) n c)) (hn : 0 < n) (hx : W.cell? ⟨b, o, none⟩ = some (.string x)) :
    Calls Tryz.prog 77 #[.slice r.a1 T.cls.length r.c1, .func (.func 84) #[] #[.pointer (some ⟨bw, 0, none⟩)]] W fun e W' => e = .returned (.int .i64 (idxP (fun c => c.1 == x) T.cls 0)) ∧ Below W.heap.size W W' :=
  IndexFunc_apiClass kCl S Tryz.sizeOf48 (fun c => c.1 == x) 84 #[.pointer (some ⟨bw, 0, none⟩)] (enters_of Tryz.func84 (by kernel_rfl) rfl) r.a1 r.c1 T.cls W
    (fun W' y cs _ hb hK => ab11_calls S x bw (some ⟨b, o, none⟩) n c W' y cs ((hb.cell (p := ⟨bw, 0, none⟩) (lt_of_cell hbw)).trans hbw) hn b o rfl ((hb.cell (p := ⟨b, o, none⟩) (lt_of_cell hx)).trans hx) hK) hC hc
/-- the work is cut by its first, in a box anew -/
theorem AbI.shift {w : World} {M : Nat → Prop} {i : Nat} {m : List ByteArray} {bw bm b o n c : Nat} {wr : World} {A1 : Option Addr} (h : AbI w M i m bw bm (.slice (some ⟨b, o, none⟩) n c) wr) (hMl : ∀ k, M k → k < wr.heap.size) (hn : n = (m.drop i).length) (hp : 0 < n)
    (hA1 : (if c = 1 then (some (⟨b, o, none⟩ : Addr)) else some ⟨b, o + 1, none⟩) = A1) :
    AbI w M (i + 1) m wr.heap.size bm (.slice A1 (n - 1) (c - 1)) (wr.alloc (.cells #[.slice A1 (n - 1) (c - 1)] 27)) := by
  have h1 := (h.own.drop 1 hp).below (Below.refl _ wr |>.alloc (Nat.le_refl _) (.cells #[.slice A1 (n - 1) (c - 1)] 27))
  have e : (if c = 1 then (some (⟨b, o, none⟩ : Addr)) else Option.map (fun a : Addr => (⟨a.block, a.off + 1 * str.sz, none⟩ : Addr)) (some ⟨b, o, none⟩)) = A1 := by rw [← hA1]; split <;> rfl
  rw [e, List.drop_drop] at h1
  have ho : ∀ k, (Value.slice A1 (n - 1) (c - 1)).ownBlock = some k → (Value.slice (some ⟨b, o, none⟩) n c).ownBlock = some k := fun k hk => by rw [← hA1] at hk; split at hk <;> simpa [Value.ownBlock] using hk
  have hlt := h.lt
  have hm := h.set.lt
  refine ⟨World.alloc_heap_new wr _, h.size, fun e => by have := hMl _ e; omega, h1, fun e => ?_, fun k hk => h.oM k (ho k hk), h.set.chg (Chg.alloc (fun _ => False) _ _) (fun e => e), h.bmN, h.bmM, by omega, fun e => h.om (ho _ e), by have := h.size; simp; omega⟩
  have := (h.own.base_le (ho _ e)).2
  omega

set_option maxRecDepth 100000 in
set_option maxHeartbeats 4000000 in
theorem above_iter (S : Nat → Prop) (r : Raw) (T : Thy) (bt bn : Nat) (a : ByteArray) (w : World) (hT : AbT S r T bt bn a w) (hS : ∀ k, S k → k < w.heap.size) (ha : a.size ≤ maxLen) (hfew : (allSups T.cls).length ≤ 100000000) :
    IterAt Tryz.prog 83 #[.pointer (some ⟨bn, 0, none⟩), .pointer (some ⟨bt, 0, none⟩)] (fun x => #[Value.string x]) (fun xs => xs = abL T.cls a) (fun pre => pre <+: abL T.cls a) (fun _ _ => False) ((allSups T.cls).length + 2)
      (fun k => k ≠ bt ∧ k ≠ bn ∧ ¬ S k) w := by
  intro l M0 J Jx hM0 hJ hJx hJM hY h0
  have hmm := @run_makeMap Tryz.prog
  have hltT := hT.lt
  obtain ⟨w2, hup, hset, hg2⟩ := (KwSet.made w).update (by decide) a ha
  have hc1 : Chg (fun _ => False) w (w.alloc (.map #[] 0)) := Chg.alloc _ _ _
  have hc2 : Chg (fun k => k = w.heap.size) (w.alloc (.map #[] 0)) w2 := Chg.grown hg2 (fun k e => .inl (by cases e; rfl))
  have hs2 := hc2.size
  rw [World.size_alloc] at hs2
  have hT2 : AbT S r T bt bn a w2 := (hT.chg hc1 (fun _ _ _ e => e) (fun e => e) (fun e => e)).chg hc2 (fun k h _ e => by have := hS k h; omega) (fun e => by omega) (fun e => by omega)
  have hnm2 := hT2.nm
  have hnm1 := (hT.chg hc1 (fun _ _ _ e => e) (fun e => e) (fun e => e)).nm
  obtain ⟨w3, hw3⟩ : ∃ w3, (w2.alloc (.cells #[.string a] 9)).alloc (.cells #[.slice (some ⟨w2.heap.size, 0, none⟩) 1 1] 27) = w3 := ⟨_, rfl⟩
  have hc3 : Chg (fun _ => False) w2 w3 := by rw [← hw3]; exact (Chg.alloc _ _ _).trans (Chg.alloc _ _ _)
  have hs3 : w3.heap.size = w2.heap.size + 2 := by rw [← hw3]; simp
  have hT3 := hT2.chg hc3 (fun _ _ _ e => e) (fun e => e) (fun e => e)
  have hc03 : Chg (fun k => w.heap.size ≤ k ∧ ¬ M0 k) w w3 := ((hc1.trans' hc2 (fun i e => .inr (by omega))).trans' hc3 (fun _ e => e.elim)).mono (fun _ e => e.elim)
  have hJ3 := hJ _ _ _ _ h0 hc03
  have hM0l := hJM _ _ _ h0
  have hA3 : AbI w M0 0 [a] (w2.heap.size + 1) w.heap.size (.slice (some ⟨w2.heap.size, 0, none⟩) 1 1) w3 := by
    have hb3 : w3.heap[w2.heap.size]? = some (.cells #[.string a] 9 (0, 0)) := by
      rw [← hw3]; exact (Below.heap_alloc _ _ _ (by simp)).trans (World.alloc_heap_new w2 _)
    refine ⟨?_, by omega, fun e => by have := hM0l _ e; omega, ?_, by simp [Value.ownBlock], fun k hk e => ?_, ?_, Nat.le_refl _, fun e => by have := hM0l _ e; omega, by omega, by simp [Value.ownBlock]; omega, by omega⟩
    · rw [← hw3]
      have := World.alloc_heap_new (w2.alloc (.cells #[.string a] 9)) (.cells #[.slice (some ⟨w2.heap.size, 0, none⟩) 1 1] 27)
      rwa [World.size_alloc] at this
    · exact Mine.made (xs := [a]) hb3 (by omega) (by simp) (by decide) (Nat.le_refl _) (scalar_cells (fun j x hj => by
        have hj' : j < 1 := (List.getElem?_eq_some_iff.1 hj).1
        obtain rfl : j = 0 := by omega
        cases hj
        simp [World.cell?, hb3]))
    · have : w2.heap.size = k := by simpa [Value.ownBlock] using hk
      have := hM0l _ e; omega
    · have := hset.chg hc3 (fun e => e)
      have e : anyB [a] = fun t => (fun _ => false) t || t == a.data.toList := by funext t; simp [anyB]
      rw [e]
      exact this
  have HY := Lib.hid hY
  have HJ := Lib.hid hJ
  have HM0 := Lib.hid hM0
  have HJM := Lib.hid hJM
  have HA := Lib.hid hA3
  have HT := Lib.hid hT3
  have HFE := Lib.hid hfew
  have HSS := Lib.hid hS
  clear hY hJ hJx hM0 hJM hA3 hT hT2 hT3 hset hg2 hc1 hc2 hc3 hc03 h0 hM0l hS
  change CallsIn _ _ _ _ _ _ (AbEnd (abL T.cls a) J Jx)
  obtain ⟨F, hF⟩ : ∃ F, F = (allSups T.cls).length + 2 := ⟨_, rfl⟩
  have HR : Hid (bfs T.cls F 0 [a] = abL T.cls a) := by rw [hF]; exact Lib.hid rfl
  generalize abL T.cls a = R at HR
  have HF := Lib.hid hF
  clear hF
  have HN : Hid (AbN T.cls a [a]) := Lib.hid ⟨by simp, fun x hx => .inl (by simpa using hx)⟩
  refine callsIn_of_wp Tryz.func83 rfl trivial ?_ rfl
  simp only [Tryz.ntmps83, List.size_toArray, List.length_cons, List.length_nil, Nat.reduceAdd, Nat.reduceSub, Array.replicate_succ, Array.replicate_zero, List.push_toArray, List.append_toArray, List.nil_append, List.cons_append]
  gi_wp2
  gi_loopg [5] F (fun gg v5 wr => ∃ (i : Nat) (m : List ByteArray) (M : Nat → Prop) (bw : Nat) (v : Value), v5 = .pointer (some ⟨bw, 0, none⟩) ∧ i ≤ m.length ∧ F ≤ gg + i ∧ Hid (AbN T.cls a m) ∧ Hid (bfs T.cls gg i m = R) ∧ Hid (J (m.take i) M wr) ∧
    Hid (∀ k, M k → k ≠ bt ∧ k ≠ bn ∧ ¬ S k) ∧ Hid (AbI w M i m bw w.heap.size v wr) ∧ Hid (AbT S r T bt bn a wr))
  case atStart => exact ⟨0, [a], M0, _, _, rfl, Nat.zero_le _, by omega, HN, HR, Lib.hid hJ3, HM0, HA, HT⟩
  case round =>
    clear HR HN HA HT hJ3 HM0 hw3 hup hnm2 hnm1 hs2 hs3
    obtain ⟨i, m, M, bw, v, rfl, him, hFg, HN, HR, HJs, HM, HA, HT⟩ := hrel
    have hbw := cell_of_one HA.out.box
    obtain ⟨A, c, rfl, hlc, hC⟩ := HA.out.own.slice_
    generalize hn : (m.drop i).length = n at HA hbw hlc
    have Hn := Lib.hid hn
    by_cases hlt : i < m.length
    · have Hlt := Lib.hid hlt
      obtain ⟨gg', rfl⟩ : ∃ q, gk = q + 1 := ⟨gk - 1, by have := HN.out.len; have := HF.out; omega⟩
      have hx0 : (m.drop i)[0]? = some (m[i]'hlt) := by rw [List.getElem?_drop, Nat.add_zero, List.getElem?_eq_getElem hlt]
      have hlen0 : 0 < (m.drop i).length := by rw [List.length_drop]; omega
      obtain ⟨b, o, rfl, _, _, hcell⟩ := str_at hC 0 hlen0
      rw [Nat.add_zero, List.getElem_drop] at hcell
      simp only [Nat.add_zero] at hcell
      have HPx : Hid (m.take i ++ [m[i]'hlt] <+: R) := by
        have h1 := bfs_prefix T.cls (gg' + 1) i m
        rw [HR.out] at h1
        have h2 : m.take i ++ [m[i]'hlt] = m.take (i + 1) := by rw [List.take_succ_eq_append_getElem hlt]
        rw [h2]
        exact Lib.hid ((List.take_prefix _ _).trans h1)
      have HR2 := Lib.hid ((bfs_step T.cls gg' i m hlt).symm.trans HR.out)
      have Htk : Hid (m.take (i + 1) = m.take i ++ [m[i]'hlt]) := by rw [List.take_succ_eq_append_getElem hlt]; exact Lib.hid rfl
      generalize hx : m[i]'hlt = x at hcell HR2 Htk HPx
      clear hx hx0 HR
      have hpos : 0 < n := by rw [← hn]; exact hlen0
      have hpz : (0 : Int) < (n : Int) := by omega
      obtain ⟨fn, tmps, assign, body, hy, hRd⟩ := HY.out (m.take i) M x wr HJs.out (by have := HN.out.len; rw [List.length_take]; omega)
      try dsimp only at hy
      have Hbw := Lib.hid hbw
      have Hcell := Lib.hid hcell
      clear hn hC hlen0
      gi_wp2
      refine ⟨rfl, ?_⟩
      refine hRd.mono ?_
      rintro e w4 (⟨rfl, M', hJ4, hc4, hM4⟩ | ⟨rfl, M', hJ4, hc4, hM4⟩)
      · have hA4 := HA.out.chg hc4 (fun k e => .inl e) hM4
        have hT4 := HT.out.chg hc4 (fun k h _ e => (HM.out k e).2.2 h) (fun e => (HM.out _ e).1 rfl) (fun e => (HM.out _ e).2.1 rfl)
        have HM' : Hid (∀ k, M' k → k ≠ bt ∧ k ≠ bn ∧ ¬ S k) := Lib.hid (fun k hk => by
          rcases hM4 k hk with h | h
          · exact HM.out k h
          · have h1 := HT.out.lt
            have h2 := HA.out.size
            exact ⟨by omega, by omega, fun hs => by have := HSS.out k hs; omega⟩)
        have hcell4 : w4.cell? ⟨b, o, none⟩ = some (.string x) := hc4.cell Hcell.out (HA.out.oM b (by simp [Value.ownBlock]))
        have hbw4 := cell_of_one hA4.box
        have HI := Lib.hid (ab_index S r T bw n c b o x w4 hT4.thy.cls hT4.thy.clsc hbw4 hpos hcell4)
        have hc14 := hT4.c1
        have hMl4 := HJM.out _ _ _ hJ4
        have HJ4 := Lib.hid hJ4
        have HA4 := Lib.hid hA4
        have HT4 := Lib.hid hT4
        have HMl4 := Lib.hid hMl4
        obtain ⟨A1, hA1⟩ : ∃ A1, (if c = 1 then (some (⟨b, o, none⟩ : Addr)) else some ⟨b, o + 1, none⟩) = A1 := ⟨_, rfl⟩
        have HA1 := Lib.hid hA1
        have hsl : ∀ W, (Instr.slice 27 (.slice (some ⟨b, o, none⟩) n c) (some (.int .i64 1)) none none).run Tryz.prog W = .ok (.slice A1 (n - 1) (c - 1)) W := fun W => by rw [← hA1]; exact run_drop1 W b o n c hpos
        clear hA1
        clear hJ4 hA4 hT4 hcell4 hbw4 hbw hcell HA HT HM HJs hc4 hM4 hRd hy Hbw Hcell hMl4
        rcases idxP_range (fun c : Cl => c.1 == x) T.cls 0 with e | ⟨k, hk, e, h1, h2⟩
        · have hs0 := sups_none e
          rw [e] at HI
          have HR3 := HR2.out
          rw [hs0] at HR3
          have HR3 := Lib.hid (show bfs T.cls gg' (i + 1) m = R from HR3)
          clear e hs0
          gi_wp2
          refine ⟨trivial, rfl, ?_⟩
          refine (callsIn_wide.2 HI.out).mono ?_
          rintro e w5 ⟨rfl, hb5⟩
          have hA5 := HA4.out.chg (Chg.of_fresh (T := fun _ => False) hb5) (fun k e => e.elim) (fun k e => .inl e)
          have hbw5 := cell_of_one hA5.box
          have hMl5 : ∀ k, M' k → k < w5.heap.size := fun k hk => by have := HMl4.out k hk; have := hb5.size; omega
          have HA6 := Lib.hid (hA5.shift hMl5 Hn.out.symm hpos HA1.out)
          have HT5 := Lib.hid (HT4.out.chg (Chg.of_fresh (T := fun _ => False) hb5) (fun _ _ _ e => e) (fun e => e) (fun e => e))
          have HJ5 := Lib.hid (HJ.out _ _ _ _ HJ4.out (Chg.of_fresh hb5))
          clear hA5 hMl5 hc14 HI
          gi_wp2
          go_roundg gg'
          case measure => omega
          case rel =>
            refine ⟨i + 1, m, M', w5.heap.size, _, rfl, by omega, by omega, HN, HR3, ?_, HM', HA6, ?_⟩
            · rw [Htk.out]; exact Lib.hid (HJ.out _ _ _ _ HJ5.out (Chg.alloc _ _ _))
            · exact Lib.hid (HT5.out.chg (Chg.alloc (fun _ => False) _ _) (fun _ _ _ e => e) (fun e => e) (fun e => e))
        · have hs0 := sups_some hk h1 h2
          rw [e, Nat.zero_add] at HI
          have HR3 := HR2.out
          rw [hs0] at HR3
          have HR3 := Lib.hid HR3
          have hsm := HT4.out.thy.small _ (List.getElem_mem hk)
          have HSM := Lib.hid hsm.2
          have HSA : Hid (∀ s ∈ (T.cls[k]'hk).2, s ∈ allSups T.cls) := Lib.hid (fun s hs => List.mem_flatMap.2 ⟨_, List.getElem_mem hk, hs⟩)
          have HCK := Lib.hid (fun W (h : C kCl S W r.a1 T.cls) => h.at_ k hk)
          generalize T.cls[k]'hk = cl at HR3 HSM HSA HCK
          have hkz : (0 : Int) ≤ (k : Int) := by omega
          have hkl : (k : Int) < (T.cls.length : Int) := by omega
          have hkn : ¬ ((k : Int) < 0) := by omega
          clear e hs0 h1 h2 hsm
          gi_wp2
          refine ⟨trivial, rfl, ?_⟩
          refine (callsIn_wide.2 HI.out).mono ?_
          rintro e w5 ⟨rfl, hb5⟩
          have HA5 := Lib.hid (HA4.out.chg (Chg.of_fresh (T := fun _ => False) hb5) (fun k e => e.elim) (fun k e => .inl e))
          have hMl5 : ∀ k, M' k → k < w5.heap.size := fun k hk => by have := HMl4.out k hk; have := hb5.size; omega
          have HMl5 := Lib.hid hMl5
          have HT5 := Lib.hid (HT4.out.chg (Chg.of_fresh (T := fun _ => False) hb5) (fun _ _ _ e => e) (fun e => e) (fun e => e))
          have HJ5 := Lib.hid (HJ.out _ _ _ _ HJ4.out (Chg.of_fresh hb5))
          obtain ⟨b', o', cs', hra, _, _, hKc, hcc⟩ := HCK.out w5 HT5.out.thy.cls
          obtain ⟨As, cp, rfl, hsl2, hCs⟩ := kCl_open hKc
          have hcs1 := hcc 1 _ rfl
          have hksz : kCl.sz = 2 := rfl
          rw [hksz] at hcs1
          have hc15 := HT5.out.c1
          rw [hra] at hc15
          have HCs := Lib.hid hCs
          have hclm : cl.2.length ≤ 9223372036854775807 := hCs.len
          clear hMl5 hc14 HI HT4 HA4 HMl4 HJ4 hKc hcc hCs hra hksz hb5 HCK hsl
          gi_wp2
          gi_loopg [38] cl.2.length (fun g2 v38 wr2 => ∃ (j : Nat) (m2 : List ByteArray) (v2 : Value), v38 = .int .i64 j ∧ j ≤ cl.2.length ∧ cl.2.length - j ≤ g2 ∧ i < m2.length ∧ Hid (∃ q, m2 = m ++ q) ∧ Hid (addNew m2 (cl.2.drop j) = addNew m cl.2) ∧ Hid (AbN T.cls a m2) ∧
            Hid (AbI w M' i m2 bw w.heap.size v2 wr2) ∧ Hid (AbT S r T bt bn a wr2) ∧ Hid (J (m.take i ++ [x]) M' wr2) ∧ Hid (C str S wr2 As cl.2) ∧ Hid (∀ k, M' k → k < wr2.heap.size))
          case atStart => exact ⟨0, m, _, rfl, Nat.zero_le _, by omega, hlt, Lib.hid ⟨[], by simp⟩, Lib.hid (by simp), HN, HA5, HT5, HJ5, HCs, HMl5⟩
          case round =>
            clear HA5 HT5 HJ5 HCs HMl5 hcs1 hc15 HN hlt him Hn hpos hpz HA1
            obtain ⟨j, m2, v2, rfl, hj, hg2, him, HP, HQ, HN, HA, HT, HJ5, HCs, HMl⟩ := hrel
            have hbw := cell_of_one HA.out.box
            by_cases hjl : j < cl.2.length
            · have hjz : (j : Int) < (cl.2.length : Int) := by omega
              have Hjl := Lib.hid hjl
              obtain ⟨bs, os, rfl, _, _, hcs⟩ := str_at HCs.out j hjl
              have hsz := HSM.out _ (List.getElem_mem hjl)
              have hsa := HSA.out _ (List.getElem_mem hjl)
              have hq := HQ.out
              rw [List.drop_eq_getElem_cons hjl, addNew] at hq
              generalize cl.2[j]'hjl = sx at hcs hsz hsa hq
              have hlook := HA.out.set.lookup sx hsz
              rw [anyB_contains] at hlook
              cases hct : m2.contains sx with
              | true =>
                rw [hct] at hlook
                rw [if_pos hct] at hq
                have HQ := Lib.hid hq
                clear hq hct
                gi_wp2
                go_roundg (cl.2.length - (j + 1))
                case measure => omega
                case rel => exact ⟨j + 1, m2, v2, by go_num, Hjl.out, Nat.le_refl _, him, HP, HQ, HN, HA, HT, HJ5, HCs, HMl⟩
              | false =>
                rw [hct] at hlook
                rw [if_neg (by rw [hct]; decide)] at hq
                have HQ := Lib.hid hq
                have hN3 : AbN T.cls a (m2 ++ [sx]) := ⟨by
                  rw [List.nodup_append]
                  refine ⟨HN.out.1, by simp, fun x hx y hy e => ?_⟩
                  subst e
                  rw [List.mem_singleton] at hy
                  subst hy
                  have := List.contains_iff_mem.2 hx
                  rw [hct] at this
                  exact absurd this (by decide), fun y hy => by
                  rcases List.mem_append.1 hy with hy | hy
                  · exact HN.out.2 y hy
                  · rw [List.mem_singleton.1 hy]; exact .inr hsa⟩
                have HN3 := Lib.hid hN3
                obtain ⟨w1, v', w3, hup, hb1, hrun, hb3, ⟨A3, n3, c3, rfl⟩, hA3, hch⟩ := HA.out.push HMl.out (by omega) sx hsz (by have := HN.out.len; omega)
                have HA3 := Lib.hid hA3
                have Hrun := Lib.hid hrun
                have hbc1 := cell_of_one hb1
                have hbc3 := cell_of_one hb3
                have hbf3 := free_of_one hb3
                have hbt1 : (w1.alloc (.cells #[.string sx] 9)).cell? ⟨bw, 0, none⟩ = some v2 := (cell_old _ _ _ _ (lt_of_cell hbc1)).trans hbc1
                have HT3 := Lib.hid (HT.out.chg hch (fun k hs _ e => by have := HSS.out k hs; omega) (fun e => by have := e.1; omega) (fun e => by have := e.1; omega))
                have HJ3 := Lib.hid (HJ.out _ _ _ _ HJ5.out hch)
                have HC3 := Lib.hid (HCs.out.chg hch (fun k hs _ e => by have := HSS.out k hs; omega))
                have HM3 : Hid (∀ k, M' k → k < (w3.setCell ⟨bw, 0, none⟩ (.slice A3 n3 c3)).heap.size) := Lib.hid (fun k hk => by have := HMl.out k hk; have := hch.size; omega)
                obtain ⟨A2, n2, c2, rfl⟩ : ∃ A n c, v2 = .slice A n c := by
                  obtain ⟨A, c, e, _⟩ := HA.out.own.form
                  exact ⟨A, _, c, e⟩
                have HP3 : Hid (∃ q, m2 ++ [sx] = m ++ q) := by
                  obtain ⟨q, e⟩ := HP.out
                  exact Lib.hid ⟨q ++ [sx], by rw [e]; simp⟩
                clear hq hct hN3 hA3 hrun hch hb1 hb3
                gi_wp2_with (gi_at_builtin; refine wpListIn_append_run rfl _ _ 27 rfl _ _ rfl rfl _ _ Hrun.out ?_)
                go_roundg (cl.2.length - (j + 1))
                case measure => omega
                case rel => exact ⟨j + 1, m2 ++ [sx], _, by go_num, Hjl.out, Nat.le_refl _, by rw [List.length_append]; omega, HP3, HQ, HN3, HA3, HT3, HJ3, HC3, HM3⟩
            · have hjz : ¬ (j : Int) < (cl.2.length : Int) := by omega
              have hq := HQ.out
              rw [List.drop_eq_nil_of_le (by omega), addNew] at hq
              subst hq
              obtain ⟨A2, c2, rfl, hlc2, hC2⟩ := HA.out.own.slice_
              have hpos2 : 0 < ((addNew m cl.2).drop i).length := by rw [List.length_drop]; omega
              obtain ⟨b2, o2, rfl⟩ : ∃ b2 o2, A2 = some ⟨b2, o2, none⟩ := by
                obtain ⟨b2, o2, e, _⟩ := str_at hC2 0 hpos2
                exact ⟨b2, o2, e⟩
              clear hC2
              generalize hn2 : ((addNew m cl.2).drop i).length = n2 at HA hbw hlc2 hpos2
              obtain ⟨A1, hA1⟩ : ∃ A1, (if c2 = 1 then (some (⟨b2, o2, none⟩ : Addr)) else some ⟨b2, o2 + 1, none⟩) = A1 := ⟨_, rfl⟩
              have HA6 := Lib.hid (HA.out.shift HMl.out hn2.symm hpos2 hA1)
              have hsl : ∀ W, (Instr.slice 27 (.slice (some ⟨b2, o2, none⟩) n2 c2) (some (.int .i64 1)) none none).run Tryz.prog W = .ok (.slice A1 (n2 - 1) (c2 - 1)) W := fun W => by rw [← hA1]; exact run_drop1 W b2 o2 n2 c2 hpos2
              have HT6 := Lib.hid (HT.out.chg (Chg.alloc (fun _ => False) _ (.cells #[.slice A1 (n2 - 1) (c2 - 1)] 27)) (fun _ _ _ e => e) (fun e => e) (fun e => e))
              have HJ6 := Lib.hid (HJ.out _ _ _ _ HJ5.out (Chg.alloc _ _ (.cells #[.slice A1 (n2 - 1) (c2 - 1)] 27)))
              have Htk2 : Hid ((addNew m cl.2).take (i + 1) = m.take i ++ [x]) := by
                obtain ⟨q, e⟩ := HP.out
                rw [e, List.take_append_of_le_length Hlt.out, Htk.out]
                exact Lib.hid rfl
              clear hA1 hn2 HQ
              gi_wp2
              go_roundg gg'
              case measure => omega
              case rel =>
                refine ⟨i + 1, addNew m cl.2, M', wr.heap.size, _, rfl, by omega, by omega, HN, HR3, ?_, HM', HA6, HT6⟩
                rw [Htk2.out]; exact HJ6
      · gi_wp2
        refine bodyPost_ret (results_none rfl _ _ _) rfl ?_
        exact .inl ⟨_, rfl, .inr ⟨_, M', HPx.out, hJ4⟩⟩
    · have h0 : m.drop i = [] := List.drop_eq_nil_of_le (by omega)
      have hR := HR.out
      rw [bfs_end _ _ _ _ (by omega)] at hR
      have hn0 : (m.drop i).length = 0 := by rw [h0]; rfl
      have hJe := HJs.out
      rw [List.take_of_length_le (by omega)] at hJe
      have HJe := Lib.hid hJe
      have HRe := Lib.hid hR
      rw [← hn, hn0] at hbw
      clear hn hn0 h0 HR hR hJe HJs hC hlc
      gi_wp2
      go_end0
      exact .inl ⟨_, rfl, .inl ⟨m, M, HRe.out, HJe.out⟩⟩

theorem above_calls (r : Raw) (T : Thy) (a : ByteArray) (w : World) :
    Calls Tryz.prog 68 #[thyV r T, .string a] w fun e w' => e = .returned (.func (.func 83) #[] #[.pointer (some ⟨w.heap.size + 1, 0, none⟩), .pointer (some ⟨w.heap.size, 0, none⟩)]) ∧ (w.alloc (.cells (thyC r T) 29)).alloc (.cells #[.string a] 9) = w' := by
  have hmf : ∀ (fn : Fn) (first cap : Array Value) (w : World), (Instr.makeFunc fn first cap).run Tryz.prog w = .ok (.func fn first cap) w := fun _ _ _ _ => rfl
  unfold thyV thyC
  go_enter Tryz.func68, Tryz.ntmps68
  go_wp2
  go_ret
  exact ⟨rfl, rfl⟩

/-- what lies between two rounds of below -/
def BelI (w : World) (b : ByteArray) (pre : List ByteArray) (M : Nat → Prop) (W : World) : Prop :=
  (∀ k, M k ↔ k = w.heap.size + 2) ∧ W.heap[w.heap.size + 2]? = some (.cells #[.bool false] 4 (0, 0)) ∧ W.cell? ⟨w.heap.size + 1, 0, none⟩ = some (.string b) ∧ b ∉ pre ∧ Below w.heap.size w W ∧ w.heap.size + 5 ≤ W.heap.size
def BelX (w : World) (b : ByteArray) (c : Code) (pre : List ByteArray) (M : Nat → Prop) (W : World) : Prop :=
  c = .ret ∧ (∀ k, M k ↔ k = w.heap.size + 2) ∧ W.heap[w.heap.size + 2]? = some (.cells #[.bool true] 4 (0, 0)) ∧ b ∈ pre ∧ Below w.heap.size w W ∧ w.heap.size + 5 ≤ W.heap.size
theorem BelI.chg {w : World} {b : ByteArray} {pre : List ByteArray} {M T : Nat → Prop} {A B : World} (h : BelI w b pre M A) (hc : Chg T A B) (hT : ∀ k, T k → w.heap.size + 5 ≤ k) : BelI w b pre M B := by
  obtain ⟨h1, h2, h3, h4, h5, h6⟩ := h
  exact ⟨h1, hc.obj h2 (fun e => by have := hT _ e; omega), hc.cell h3 (fun e => by have := hT _ e; simp only at this; omega), h4, h5.trans (hc.below (by omega) (fun k hk => by have := hT _ hk; omega)), by have := hc.size; omega⟩
theorem BelX.chg {w : World} {b : ByteArray} {c : Code} {pre : List ByteArray} {M T : Nat → Prop} {A B : World} (h : BelX w b c pre M A) (hc : Chg T A B) (hT : ∀ k, T k → w.heap.size + 5 ≤ k) : BelX w b c pre M B := by
  obtain ⟨h1, h2, h3, h4, h5, h6⟩ := h
  exact ⟨h1, h2, hc.obj h3 (fun e => by have := hT _ e; omega), h4, h5.trans (hc.below (by omega) (fun k hk => by have := hT _ hk; omega)), by have := hc.size; omega⟩

set_option maxRecDepth 100000 in
set_option maxHeartbeats 4000000 in
theorem below_calls (S : Nat → Prop) (r : Raw) (T : Thy) (a b : ByteArray) (w : World) (hT : ThyR S w r T) (ha : a.size ≤ maxLen) (hfew : (allSups T.cls).length ≤ 100000000) :
    Calls Tryz.prog 65 #[thyV r T, .string a, .string b] w fun e w' => e = .returned (.bool (belowB T.cls a b)) ∧ Below w.heap.size w w' := by
  have HAb := Lib.hid (fun W => above_calls r T a W)
  generalize hbd : belowB T.cls a b = R
  have HBD := Lib.hid hbd
  clear hbd
  have hT' := hT.bound
  have HT := Lib.hid hT'
  clear hT hT'
  refine (callsIn_wide (n := 0)).1 ?_
  refine callsIn_of_wp_marks Tryz.func65 rfl trivial ?_ rfl
  simp only [Tryz.ntmps65, List.size_toArray, List.length_cons, List.length_nil, Nat.reduceAdd, Nat.reduceSub, Array.replicate_succ, Array.replicate_zero, List.push_toArray, List.append_toArray, List.nil_append, List.cons_append]
  unfold thyV thyC
  gi_wp2
  refine ⟨trivial, rfl, ?_⟩
  refine (callsIn_wide.2 (HAb.out _)).mono ?_
  rintro e w1 ⟨rfl, rfl⟩
  unfold thyC
  gi_wp2
  obtain ⟨W0, hW0⟩ : ∃ W0, (((((w.alloc (.cells (thyC r T) 29)).alloc (.cells #[.string b] 9)).alloc (.cells #[.bool false] 4)).alloc (.cells (thyC r T) 29)).alloc (.cells #[.string a] 9)) = W0 := ⟨_, rfl⟩
  have hs0 : W0.heap.size = w.heap.size + 5 := by rw [← hW0]; simp
  have hb0 : Below w.heap.size w W0 := by rw [← hW0]; exact ((((Below.refl _ w).alloc (Nat.le_refl _) _).alloc (by simp) _).alloc (by simp; omega) _).alloc (by simp; omega) _ |>.alloc (by simp; omega) _
  have cb : W0.cell? ⟨w.heap.size + 1, 0, none⟩ = some (.string b) := by
    rw [← hW0, cell_old _ _ _ _ (by simp), cell_old _ _ _ _ (by simp), cell_old _ _ _ _ (by simp)]
    exact cells_at _ _ _ _ 0 (by simp)
  have cr : W0.heap[w.heap.size + 2]? = some (.cells #[.bool false] 4 (0, 0)) := by
    rw [← hW0]
    refine (Below.heap_alloc _ _ _ (by simp)).trans ((Below.heap_alloc _ _ _ (by simp)).trans ?_)
    have := World.alloc_heap_new ((w.alloc (.cells (thyC r T) 29)).alloc (.cells #[.string b] 9)) (.cells #[.bool false] 4)
    rwa [World.size_alloc, World.size_alloc] at this
  have hA0 : AbT (fun k => S k ∧ k < w.heap.size) r T (w.heap.size + 1 + 1 + 1) (w.heap.size + 1 + 1 + 1 + 1) a W0 := by
    refine ⟨HT.out.below hb0, ?_, ?_⟩
    · rw [← hW0]
      refine (Below.heap_alloc _ _ _ (by simp)).trans ?_
      have := World.alloc_heap_new (((w.alloc (.cells (thyC r T) 29)).alloc (.cells #[.string b] 9)).alloc (.cells #[.bool false] 4)) (.cells (thyC r T) 29)
      rwa [World.size_alloc, World.size_alloc, World.size_alloc] at this
    · rw [← hW0]; exact cells_at _ _ _ _ 0 (by simp)
  have hI0 : BelI w b [] (fun k => k = w.heap.size + 2) W0 := ⟨fun k => Iff.rfl, cr, cb, by simp, hb0, by omega⟩
  change Code.wpIn _ _ _ _ _ _ (((((w.alloc (.cells (thyC r T) 29)).alloc (.cells #[.string b] 9)).alloc (.cells #[.bool false] 4)).alloc (.cells (thyC r T) 29)).alloc (.cells #[.string a] 9))
  rw [hW0]
  clear hW0 HT HAb cb cr hb0
  refine wp_rangeFunc (gf := 83) (lb := #[.pointer (some ⟨w.heap.size + 1 + 1 + 1 + 1, 0, none⟩), .pointer (some ⟨w.heap.size + 1 + 1 + 1, 0, none⟩)]) rfl (enters_of Tryz.func83 (by kernel_rfl) rfl)
    (fun W1 hc1 _ => above_iter (fun k => S k ∧ k < w.heap.size) r T (w.heap.size + 1 + 1 + 1) (w.heap.size + 1 + 1 + 1 + 1) a W1 (hA0.chg hc1 (fun _ _ _ e => e) (fun e => e) (fun e => e)) (fun k hk => by have := hc1.size; have := hk.2; omega) ha hfew)
    ⟨by omega, by omega, fun e => by have := e.2; omega⟩ (fun x => rfl) (fun k => k = w.heap.size + 2) (fun k hk => ⟨⟨by omega, by omega, fun e => by have := e.2; omega⟩, by omega⟩)
    (BelI w b) (BelX w b)
    (fun pre M A B h hc => h.chg hc (fun k hk => by have := hk.1; omega)) (fun c pre M A B h hc => h.chg hc (fun k hk => by have := hk.1; omega)) (fun pre M A h k hk => by have := (h.1 k).1 hk; have := h.2.2.2.2.2; omega) hI0
    (fun x a1 _ => a1 = { tmps := #[thyV r T, .string a, .string b, .pointer (some ⟨w.heap.size, 0, none⟩), undef, .pointer (some ⟨w.heap.size + 1, 0, none⟩), .pointer (some ⟨w.heap.size + 1 + 1, 0, none⟩), .string x, thyV r T, .string a,
      .func (.func 83) #[] #[.pointer (some ⟨w.heap.size + 1 + 1 + 1 + 1, 0, none⟩), .pointer (some ⟨w.heap.size + 1 + 1 + 1, 0, none⟩)], .string x, undef, undef, undef], defers := [] })
    (fun _ _ _ _ h _ => h) ?assign ?body ?done ?stop ?panic
  case assign =>
    intro l x W hW
    gi_wp2
    exact ⟨rfl, Chg.refl _ _⟩
  case body =>
    rintro l pre M x a1 sz W ⟨hM, h2, h3, h4, h5, h6⟩ hMs hlen rfl hsz hsW
    have hcr := cell_of_one h2
    have hfr := free_of_one h2
    have HS := Lib.hid (str_eq x b)
    have HM := Lib.hid hM
    have HMS := Lib.hid hMs
    have H2 := Lib.hid h2
    have H3 := Lib.hid h3
    have H4 := Lib.hid h4
    have H5 := Lib.hid h5
    unfold thyV thyC
    clear hM hMs h4 h5 hI0 hA0
    by_cases hx : x = b
    · subst hx
      have hcy : (x.toList == x.toList) = true := beq_iff_eq.2 rfl
      gi_wp2
      refine ⟨M, ⟨rfl, HM.out, one_setCell H2.out, by simp, H5.out.setCell (by show _ ≤ w.heap.size + 2; omega) _, by simp [World.setCell]; omega⟩, (Chg.setCell (T := fun k => M k ∨ sz ≤ k) (p := ⟨w.heap.size + 2, 0, none⟩) (.inl ((HM.out _).2 rfl)) _), fun k hk => .inl hk⟩
    · have hcy : (x.toList == b.toList) = false := by rw [HS.out]; exact beq_eq_false_iff_ne.2 hx
      gi_wp2
      exact ⟨M, ⟨HM.out, H2.out, H3.out, fun h => by
        rcases List.mem_append.1 h with h | h
        · exact H4.out h
        · exact hx (List.mem_singleton.1 h).symm, H5.out, h6⟩, Chg.refl _ _, fun k hk => .inl hk⟩
  case done =>
    rintro D xs M W hD rfl ⟨hM, h2, h3, h4, h5, h6⟩ hK
    have hcr := cell_of_one h2
    have hfr := free_of_one h2
    have hr : belowB T.cls a b = false := by
      unfold belowB
      cases hc : (abL T.cls a).contains b with
      | false => rfl
      | true => exact absurd (List.contains_iff_mem.1 hc) h4
    obtain rfl : R = false := HBD.out.symm.trans hr
    have H5 := Lib.hid h5
    have hlt2 := (Array.getElem?_eq_some_iff.1 h2).1
    clear hr h4 h5 hM hI0 hA0
    gi_wp2
    have hne : w.heap.size + 2 ≠ D := by omega
    have hself : W.setCell ⟨w.heap.size + 1 + 1, 0, none⟩ (.bool false) = W := setCell_self hcr
    rw [hself]
    have hc2 : Chg (fun k => k = D) W (W.putObj D (.deferred none)) := Chg.putObj (T := fun k => k = D) rfl _
    have hcr2 := hc2.cell hcr hne
    refine ⟨by simp, .inl ⟨D, _, rfl, run_takeDeferred hK, ?_⟩⟩
    exact ⟨.bool false, by simp [results, Tryz.results65, go_sem, hcr2], rfl, H5.out.trans (hc2.below (by have := H5.out.size; omega) (fun k hk => by omega))⟩
  case stop =>
    rintro D c pre M W hD hp ⟨rfl, hM, h2, h4, h5, h6⟩ hK
    have hcr := cell_of_one h2
    have hr : belowB T.cls a b = true := List.contains_iff_mem.2 (hp.subset h4)
    obtain rfl : R = true := HBD.out.symm.trans hr
    have H5 := Lib.hid h5
    clear hr h4 h5 hM hI0 hA0 hp
    gi_wp2
    have hne : w.heap.size + 2 ≠ D := by omega
    have hc2 : Chg (fun k => k = D) W (W.putObj D (.deferred none)) := Chg.putObj (T := fun k => k = D) rfl _
    have hcr2 := hc2.cell hcr hne
    refine ⟨by simp, .inl ⟨D, _, rfl, run_takeDeferred hK, ?_⟩⟩
    exact ⟨.bool true, by simp [results, Tryz.results65, go_sem, hcr2], rfl, H5.out.trans (hc2.below (by have := H5.out.size; omega) (fun k hk => by omega))⟩
  case panic =>
    rintro D chain pre M W hD h _ _
    exact h.elim
end Go.Proofs.YthfomoigaoffgaaGreat.So
