/- Walks: strings.NewReplacer, its Replace; how a token is spelled. -/
import Derived.Test.YtmkfeanggmjhmaaGreatRp4
import Derived.Deep.RegionWith
namespace Go.Proofs.YtmkfeanggmjhmaaGreat.Rp
open Go Go.RowKit
set_option linter.unusedSimpArgs false
set_option linter.unusedVariables false

theorem tab_other {B bb k i : Nat} {done : List (Nat × Nat)} {w : World} {cs : Array Value} (T : Tab B bb done w) (hb : w.heap[k]? = some (.cells cs 111 (0, 0))) (v : Value) : Tab B bb done (w.setCell ⟨k, i, none⟩ v) := by
  obtain ⟨PA, u, h1, h2, h3, h4⟩ := T
  have e : ∀ j, j ≠ k → (w.setCell ⟨k, i, none⟩ v).heap[j]? = w.heap[j]? := fun j hj => heap_setCell_other w ⟨k, i, none⟩ j v hj
  refine ⟨PA, u, ?_, h2, own_keep h3 (fun j cur hj => e j (fun h => by subst h; rw [hb] at hj; cases hj)), fun c hc => ?_⟩
  · rw [e bb (fun h => by subst h; rw [hb] at h1; cases h1)]; exact h1
  · rcases h4 c hc with ⟨d, hm, g, cap, cur, fr, k1, k2, k3, k4⟩ | h
    · exact .inl ⟨d, hm, g, cap, cur, fr, k1, k2, by rw [e g (fun h => by subst h; rw [hb] at k3; cases k3)]; exact k3, k4⟩
    · exact .inr h
theorem tab_heap {B bb : Nat} {done : List (Nat × Nat)} {w w' : World} (T : Tab B bb done w) (h : w'.heap = w.heap) : Tab B bb done w' := by
  obtain ⟨PA, u, h1, h2, h3, h4⟩ := T
  refine ⟨PA, u, by rw [h]; exact h1, h2, own_keep h3 (fun j cur hj => by rw [h]), fun c hc => ?_⟩
  rcases h4 c hc with ⟨d, hm, g, cap, cur, fr, k1, k2, k3, k4⟩ | h'
  · exact .inl ⟨d, hm, g, cap, cur, fr, k1, k2, by rw [h]; exact k3, k4⟩
  · exact .inr h'
def six : List Value := [.string ⟨#[34]⟩, .string ⟨#[92, 34]⟩, .string ⟨#[92]⟩, .string ⟨#[92, 92]⟩, .string ⟨#[10]⟩, .string ⟨#[92, 110]⟩]
def repC (s : Value) : Array Value := #[.int .u32 0, .int .i32 0, .int .u32 0, .nilIface, s]

set_option maxRecDepth 100000 in
set_option maxHeartbeats 1000000 in
theorem New_calls (a : Nat) (w : World) (ha : w.heap[a]? = some (.cells six.toArray 9 (0, 0))) :
    Calls Tryz.prog 49 #[.slice (some ⟨a, 0, none⟩) 6 6] w fun e w' => ∃ b o c, e = .returned (.pointer (some ⟨b, 0, none⟩)) ∧ w'.heap[b]? = some (.cells (repC (.slice (some ⟨o, 0, none⟩) 6 c)) 111 (0, 0)) ∧ w.heap.size ≤ b ∧ o ≠ b ∧
      (∀ j, j < 6 → w'.cell? ⟨o, j, none⟩ = six[j]?) ∧ Below w.heap.size w w' := by
  obtain ⟨i0, hi, hz0, hz1, hz2⟩ := info_parts infoString
  have hc : ∀ j u, six[j]? = some u → w.cell? ((⟨a, 0, none⟩ : Addr).add j) = some u := fun j u hj => by rw [addr_add, Lib.cell_of_heap ha, List.getElem?_toArray]; exact hj
  have Hc := Lib.hid hc
  clear hc ha
  go_enter Tryz.func49, Tryz.ntmps49
  go_wp2_with (at_builtin; refine wpList_append_own _ rfl _ _ 22 rfl w.heap.size 9 i0 _ 1 16 Tryz.underlying22 hi hz0 hz1 hz2 rfl (by decide) _ _ _ rfl (World.ownsRow_nil _ _ _ _) ⟨a, 0, none⟩ 6 6 six rfl rfl Hc.out ?c2 ?c3 ?c4 ?c5 ?_)
  case c2 => intro u hu; simp [six] at hu; rcases hu with rfl | rfl | rfl | rfl | rfl | rfl <;> rfl
  case c3 => decide
  case c4 => decide
  case c5 => exact Nat.le_refl _
  intro v' w1 hown hgrow _
  obtain ⟨hlen, hown⟩ := hown
  rcases hown with ⟨_, h0⟩ | ⟨g, cap, cur, rfl, hg, hh, hcc, hm, hs, ht⟩
  · cases h0
  · have Hh := Lib.hid hh
    have Ht := Lib.hid ht
    clear hh ht hs hlen
    go_wp2
    go_ret
    have hb1 : Below w.heap.size w w1 := (Below.refl _ w).grown hgrow (Nat.le_refl _) (fun k hk => by simp [Value.ownBlock] at hk)
    refine ⟨w1.heap.size, g, cap, rfl, World.alloc_heap_new _ _, hb1.size, Nat.ne_of_lt (lt_heap Hh.out), fun j hj => ?_, hb1.alloc (by have := hb1.size; omega) _⟩
    have hg1 : g < w1.heap.size := lt_heap Hh.out
    rw [World.cell?_alloc_past _ _ _ hg1, Lib.cell_of_heap Hh.out, ← Array.getElem?_toList]
    have e : cur.toList.take 6 = six := Ht.out
    have hi : cur.toList[j]? = (cur.toList.take 6)[j]? := by rw [List.getElem?_take, if_pos hj]
    rw [hi, e]

/-- the replacer's block, behind the first part of Once -/
structure Built (b : Nat) (w W : World) : Prop where
  cells : ∃ sem, W.heap[b]? = some (.cells #[.int .u32 0, .int .i32 1, sem, .iface 141 (.pointer (some ⟨w.heap.size + 1, 0, none⟩)), .slice none 0 0] 111 (0, 0))
  tab : Tab w.heap.size (w.heap.size + 1) full W
  keep : ∀ k, k < w.heap.size → k ≠ b → W.heap[k]? = w.heap[k]?
  os : W.os = w.os
  tape : W.tape = w.tape
  output : W.output = w.output
  size : w.heap.size ≤ W.heap.size
theorem Built.cell {b : Nat} {w W : World} (h : Built b w W) : W.cell? ⟨b, 0, none⟩ = some (.int .u32 0) ∧ W.cell? ⟨b, 1, none⟩ = some (.int .i32 1) ∧ W.frozen? ⟨b, 0, none⟩ = false ∧ W.frozen? ⟨b, 1, none⟩ = false := by
  obtain ⟨sem, hc⟩ := h.cells
  exact ⟨by rw [Lib.cell_of_heap hc]; rfl, by rw [Lib.cell_of_heap hc]; rfl, Lib.frozen_of_heap hc _, Lib.frozen_of_heap hc _⟩

set_option maxRecDepth 100000 in
set_option maxHeartbeats 1000000 in
theorem buildOnce_calls (b o c : Nat) (w : World) (hb : w.heap[b]? = some (.cells #[.int .u32 0, .int .i32 1, .int .u32 0, .nilIface, .slice (some ⟨o, 0, none⟩) 6 c] 111 (0, 0))) (hs : ∀ j, j < 6 → w.cell? ⟨o, j, none⟩ = six[j]?) :
    Calls Tryz.prog 74 #[.pointer (some ⟨b, 0, none⟩)] w fun e w' => e = .returned (.tuple #[]) ∧ Built b w w' := by
  have hbl := lt_heap hb
  have HB := Lib.hid (build_calls b o c w (by rw [Lib.cell_of_heap hb]; rfl) (hs 0 (by decide)) (hs 1 (by decide)) (hs 2 (by decide)) (hs 3 (by decide)) (hs 4 (by decide)) (hs 5 (by decide)))
  clear hs
  have Hb := Lib.hid hb
  clear hb
  go_enter Tryz.func74, Tryz.ntmps74
  go_wp2_with fail
  refine HB.out.mono ?_
  rintro e w1 ⟨rfl, hb1, hT⟩
  have hc1 := (hb1.block b hbl).trans Hb.out
  have c3 : w1.cell? ⟨b, 3, none⟩ = some .nilIface := by rw [Lib.cell_of_heap hc1]; rfl
  have c4 : w1.cell? ⟨b, 4, none⟩ = some (.slice (some ⟨o, 0, none⟩) 6 c) := by rw [Lib.cell_of_heap hc1]; rfl
  have f3 : w1.frozen? ⟨b, 3, none⟩ = false := Lib.frozen_of_heap hc1 _
  have f4 : w1.frozen? ⟨b, 4, none⟩ = false := Lib.frozen_of_heap hc1 _
  have Hc1 := Lib.hid hc1
  have HT := Lib.hid hT
  clear hc1 hT
  go_wp2
  go_end0
  have d1 := heap_setCell_same w1 b 3 _ 111 (.iface 141 (.pointer (some ⟨w.heap.size + 1, 0, none⟩))) Hc1.out
  have d2 := heap_setCell_same _ b 4 _ 111 (.slice none 0 0) d1
  refine ⟨rfl, ⟨_, d2⟩, tab_other (tab_other HT.out Hc1.out _) d1 _, fun k hk hkb => ?_, hb1.os, hb1.tape, hb1.output, by simpa using hb1.size⟩
  rw [heap_setCell_other _ ⟨b, 4, none⟩ k _ hkb, heap_setCell_other _ ⟨b, 3, none⟩ k _ hkb]
  exact hb1.block k hk

theorem Built.once {b : Nat} {w W : World} (h : Built b w W) : (onceEnd b W).cell? ⟨b, 3, none⟩ = some (.iface 141 (.pointer (some ⟨w.heap.size + 1, 0, none⟩))) ∧ Tab w.heap.size (w.heap.size + 1) full (onceEnd b W) ∧ (∀ k, k < w.heap.size → k ≠ b → (onceEnd b W).heap[k]? = w.heap[k]?) ∧
    (onceEnd b W).os = w.os ∧ (onceEnd b W).tape = w.tape ∧ (onceEnd b W).output = w.output ∧ w.heap.size ≤ (onceEnd b W).heap.size := by
  obtain ⟨sem, hc⟩ := h.cells
  have hd : W.drew.heap[b]? = _ := hc
  have d1 := heap_setCell_same W.drew b 0 _ 111 (.int .u32 1) hd
  have d2 := heap_setCell_same _ b 1 _ 111 (.int .i32 0) d1
  refine ⟨by unfold onceEnd; rw [Lib.cell_of_heap d2]; rfl, ?_, fun k hk hkb => ?_, h.os, h.tape, h.output, ?_⟩
  · exact tab_other (tab_other (tab_heap h.tab rfl) hd _) d1 _
  · unfold onceEnd
    rw [heap_setCell_other _ ⟨b, 1, none⟩ k _ hkb, heap_setCell_other _ ⟨b, 0, none⟩ k _ hkb]
    exact h.keep k hk hkb
  · unfold onceEnd
    rw [World.size_setCell, World.size_setCell]
    exact h.size
theorem method_replace (v : Value) (w : World) : (method 307 141 v "Replace").run Tryz.prog w = .ok (147, v) w := by kernel_rfl
set_option maxRecDepth 100000 in
set_option maxHeartbeats 1000000 in
theorem Replacer_Replace_calls (b o c : Nat) (w : World) (hb : w.heap[b]? = some (.cells (repC (.slice (some ⟨o, 0, none⟩) 6 c)) 111 (0, 0))) (hs : ∀ j, j < 6 → w.cell? ⟨o, j, none⟩ = six[j]?) (hob : o ≠ b) (s : ByteArray) (hss : s.size ≤ 1000000) (B : Nat) (hB : B ≤ b) (hBw : B ≤ w.heap.size) :
    Calls Tryz.prog 50 #[.pointer (some ⟨b, 0, none⟩), .string s] w fun r w' => r = .returned (.string ⟨(escL s.data.toList).toArray⟩) ∧ Below B w w' := by
  have hmf : ∀ (fn : Fn) (first cap : Array Value) (w : World), (Instr.makeFunc fn first cap).run Tryz.prog w = .ok (.func fn first cap) w := fun _ _ _ _ => rfl
  have hbl := lt_heap hb
  have e1 := heap_setCell_same w b 1 _ 111 (.int .i32 1) hb
  have hz : (w.setCell ⟨b, 1, none⟩ (.int .i32 1)).heap.size = w.heap.size := by simp
  have HO := Lib.hid (buildOnce_calls b o c (w.setCell ⟨b, 1, none⟩ (.int .i32 1)) e1 (fun j hj => by
    rw [World.cell?_setCell_other _ _ _ _ (by intro h; exact hob (congrArg Addr.block h).symm)]; exact hs j hj))
  have HD := Lib.hid (do_calls b w (by rw [Lib.cell_of_heap hb]; rfl) (by rw [Lib.cell_of_heap hb]; rfl) (Lib.frozen_of_heap hb _) (Lib.frozen_of_heap hb _) (Built b (w.setCell ⟨b, 1, none⟩ (.int .i32 1))) (fun W h => h.cell) HO.out)
  clear HO e1 hs
  have Hb := Lib.hid hb
  clear hb
  go_enter Tryz.func50, Tryz.ntmps50
  go_wp2_with fail
  refine HD.out.mono ?_
  rintro e w1 ⟨rfl, W, hW, rfl⟩
  obtain ⟨k1, k2, k3, k4, k5, k6, k7⟩ := hW.once
  rw [hz] at k1 k2
  have HR := Lib.hid (Replace_calls _ _ _ k2 s hss)
  have hbw : Below B w (onceEnd b W) := ⟨k4, k5, k6, by rw [hz] at k7; exact k7, fun k hk => by rw [k3 k (by rw [hz]; omega) (by omega)]; exact heap_setCell_other w ⟨b, 1, none⟩ k _ (by show k ≠ b; omega)⟩
  have Hbw := Lib.hid hbw
  clear hW k2 k3 k4 k5 k6 hbw
  rw [hz] at k7
  generalize onceEnd b W = W2 at k1 k7 HR Hbw
  have hmt := method_replace
  go_wp2_with (go_at_call 147; refine HR.out.mono ?_; rintro e w3 ⟨rfl, hb3⟩)
  go_ret
  exact ⟨rfl, Hbw.out.trans (hb3.mono (by omega))⟩

def opened : List UInt8 := [92, 60, 111, 112, 101, 110, 62]
def closed : List UInt8 := [92, 60, 99, 108, 111, 115, 101, 62]
/-- how a token of a kind is written -/
def spell (k : Int) (t : ByteArray) : ByteArray :=
  if k = 9 then ⟨(opened ++ t.data.toList ++ closed).toArray⟩ else if k = 8 then ⟨(34 :: escL t.data.toList ++ [34]).toArray⟩ else t
theorem cat_list (a b : List UInt8) : (⟨a.toArray⟩ : ByteArray) ++ ⟨b.toArray⟩ = ⟨(a ++ b).toArray⟩ := by
  apply ByteArray.ext
  apply Array.ext'
  simp

set_option maxRecDepth 100000 in
set_option maxHeartbeats 2000000 in
theorem spelled_calls (k : Int) (t : ByteArray) (p : Int) (w : World) (ht : t.size ≤ 1000000) :
    Calls Tryz.prog 37 #[.agg #[.int .i64 k, .string t, .int .i64 p]] w fun r w' => r = .returned (.string (spell k t)) ∧ Below w.heap.size w w' := by
  by_cases h9 : k = 9
  · subst h9
    have hsp : spell 9 t = ⟨#[92, 60, 111, 112, 101, 110, 62]⟩ ++ t ++ ⟨#[92, 60, 99, 108, 111, 115, 101, 62]⟩ := by
      unfold spell
      rw [if_pos rfl]
      have e : t = ⟨t.data.toList.toArray⟩ := rfl
      rw [e]
      exact (by rw [show (⟨#[92, 60, 111, 112, 101, 110, 62]⟩ : ByteArray) = ⟨opened.toArray⟩ from rfl, show (⟨#[92, 60, 99, 108, 111, 115, 101, 62]⟩ : ByteArray) = ⟨closed.toArray⟩ from rfl, cat_list, cat_list])
    rw [hsp]
    clear hsp
    go_enter Tryz.func37, Tryz.ntmps37
    go_wp2
    go_ret
    exact ⟨rfl, (Below.refl _ w).alloc (Nat.le_refl _) _⟩
  · have g9 : (k == 9) = false := by simpa using h9
    by_cases h8 : k = 8
    · subst h8
      have hsp : spell 8 t = ⟨#[34]⟩ ++ ⟨(escL t.data.toList).toArray⟩ ++ ⟨#[34]⟩ := by
        unfold spell
        rw [if_neg (by decide), if_pos rfl]
        rw [show (⟨#[34]⟩ : ByteArray) = ⟨[(34 : UInt8)].toArray⟩ from rfl, cat_list, cat_list]
        rfl
      rw [hsp]
      clear hsp
      have HN := Lib.hid (fun (W : World) (h : W.heap[w.heap.size + 1]? = some (.cells six.toArray 9 (0, 0))) => New_calls (w.heap.size + 1) W h)
      go_enter Tryz.func37, Tryz.ntmps37
      go_wp2
      have hel : (⟨(escL t.data.toList).toArray⟩ : ByteArray).size ≤ 2000000 := by
        have h1 := escL_len t.data.toList
        have h2 := cnt_le t.data.toList
        have h3 : t.data.toList.length = t.size := rfl
        simp only [ByteArray.size, List.size_toArray]
        omega
      generalize hG : (⟨(escL t.data.toList).toArray⟩ : ByteArray) = G at hel
      have HG := Lib.hid hG
      clear hG
      go_region_with (first
        | (go_at_call 49; refine (HN.out _ ?_).mono ?_; (exact heap_alloc2_new _ _ _); rintro e w1 ⟨b, o, c, rfl, hb, hbb, hob, hs, hbel⟩; have hld := (hbel.cell (p := ⟨w.heap.size, 1, none⟩) (by simp; omega)).trans (Lib.cell_of_heap (heap_alloc2_old w _ _) 1); have HH := Lib.hid (And.intro hb (And.intro hbb (And.intro hob (And.intro hs hbel)))); clear hb hbb hob hs hbel)
        | (go_at_call 50; refine (Replacer_Replace_calls _ _ _ _ HH.out.1 HH.out.2.2.2.1 HH.out.2.2.1 t ht w.heap.size (by have := HH.out.2.1; simp at this; omega) (by have := HH.out.2.2.2.2.size; simp at this; omega)).mono ?_; rintro e w2 ⟨rfl, hb2⟩; rw [HG.out]))
      all_goals
        go_wp2
        go_ret
        have hz := HH.out.2.2.2.2
        have h0 : Below w.heap.size w ((w.alloc (.cells #[.int .i64 8, .string t, .int .i64 p] 30)).alloc (.cells six.toArray 9)) := ((Below.refl _ w).alloc (Nat.le_refl _) _).alloc (by simp) _
        have h0' : Below w.heap.size w ((w.alloc (.cells #[.int .i64 8, .string t, .int .i64 p] 30)).alloc (.cells six.toArray 9)).drew := ⟨h0.os, h0.tape, h0.output, h0.size, h0.block⟩
        exact ⟨by rw [HG.out]; rfl, (h0'.trans (hz.mono (by simp; omega))).trans hb2⟩
    · have g8 : (k == 8) = false := by simpa using h8
      have hsp : spell k t = t := by unfold spell; rw [if_neg h9, if_neg h8]
      rw [hsp]
      clear hsp
      go_enter Tryz.func37, Tryz.ntmps37
      go_wp2
      go_ret
      exact ⟨rfl, (Below.refl _ w).alloc (Nat.le_refl _) _⟩
end Go.Proofs.YtmkfeanggmjhmaaGreat.Rp
