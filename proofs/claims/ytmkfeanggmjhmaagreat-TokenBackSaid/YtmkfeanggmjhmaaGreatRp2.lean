/- Walk of strings.Replacer's build, for the three pairs of a string's signs. -/
import Derived.Test.YtmkfeanggmjhmaaGreatRp1
import Derived.Test.YtmkfeanggmjhmaaGreatBld
import Derived.Test.YtmkfeanggmjhmaaGreatS10
import Derived.Laws.Tables
import Derived.Laws.Rows
import Derived.Laws.Cover3
import Derived.Deep.WholeRow
import Derived.Deep.LoopGhost
import Derived.Lib.ConvBytes
import Derived.Laws.MakeOwn
import Derived.Laws.IdiomStrings
import Derived.Laws.BytesString
namespace Go.Proofs.YtmkfeanggmjhmaaGreat.Rp
open Go Go.RowKit
set_option linter.unusedSimpArgs false
set_option linter.unusedVariables false

def nilS : Value := .slice none 0 0
/-- the cells of a table of replacements -/
def tab0 : Array Value := Array.replicate 256 nilS
theorem info140 : (Tryz.prog.info? 140).map (fun i => (i.zero, i.size)) = some (some (.agg (tab0.push nilS)), 257) := by kernel_rfl
theorem zero140 (w : World) : (zeroValue 140).run Tryz.prog w = .ok (.agg (tab0.push nilS)) w := (zero_of_info info140).1 w
theorem size140 : (Tryz.prog.info? 140).map (·.size) = some 257 := (zero_of_info info140).2
theorem built140 (a : Option Addr) (n c : Nat) : Tryz.prog.built 140 [(1, .slice a n c)] = some (tab0.push (.slice a n c)) := by kernel_rfl
theorem build140 (a : Option Addr) (n c : Nat) (w : World) : (Instr.build 140 #[(1, .slice a n c)]).run Tryz.prog w = .ok (.agg (tab0.push (.slice a n c))) w := run_build w 140 _ _ (built140 a n c)
theorem infoString : (Tryz.prog.info? 9).map (fun i => (i.zero, i.size, i.bytes)) = some (some (.string ⟨#[]⟩), 1, 16) := by kernel_rfl
theorem make3 (w : World) : (Instr.makeSlice 22 (.int .i64 0) (.int .i64 3)).run Tryz.prog w = .ok (.slice (some ⟨w.heap.size, 0, none⟩) 0 3) (w.alloc (.cells #[.string ⟨#[]⟩, .string ⟨#[]⟩, .string ⟨#[]⟩] 9)) := by
  obtain ⟨i0, hi, hz0, hz1, hz2⟩ := info_parts infoString
  have := run_make (P := Tryz.prog) w 22 9 i0 _ Tryz.underlying22 hi hz0 .i64 .i64 0 3 (by decide) (by decide) (by rw [hz2]; decide) (by decide)
  rw [hz1] at this
  have e : madeCells (Value.string ⟨#[]⟩).cells (Int.toNat 3 * 1) = #[.string ⟨#[]⟩, .string ⟨#[]⟩, .string ⟨#[]⟩] := by simp [madeCells, Value.cells, Array.range_succ, Array.range_zero']
  rw [e] at this
  exact this
theorem eql_nil (t e : TypeId) (hu : Tryz.prog.underlying t = some (.slice e)) (a : Option Addr) (l c : Nat) (w : World) : (binOp .eql t (.slice a l c) (.slice none 0 0)).run Tryz.prog w = .ok (.bool a.isNone) w := by
  simp only [binOp]
  simp [run_equal_slice_nil w _ _ a l c hu]

theorem all_tab (v : Value) (h : v.oneCell' = true) : (tab0.push v).all (·.oneCell') = true := by
  rw [Array.all_eq_true_iff_forall_mem]
  intro x hx
  rcases Array.mem_push.1 hx with h' | rfl
  · unfold tab0 at h'
    rw [(Array.mem_replicate.1 h').2]
    rfl
  · exact h
theorem set_second (w : World) (X : Obj) (c c' : Array Value) (t : TypeId) : ((w.alloc X).alloc (.cells c t)).setRow (w.heap.size + 1) c' = (w.alloc X).alloc (.cells c' t) := by
  have := World.setRow_alloc_new (w.alloc X) c c' t
  rwa [World.size_alloc] at this
/-- what a byte's replacement is, of a table that is half done -/
def Slot (w : World) (B : Nat) (PA : Array Value) (done : List (Nat × Nat)) (c : Nat) : Prop :=
  (∃ d, (c, d) ∈ done ∧ ∃ g cap cur fr, PA[c]? = some (.slice (some ⟨g, 0, none⟩) 2 cap) ∧ B ≤ g ∧ w.heap[g]? = some (.cells cur 5 fr) ∧ cur[0]? = some (.int .u8 92) ∧ cur[1]? = some (.int .u8 d)) ∨
  ((∀ d, (c, d) ∉ done) ∧ PA[c]? = some nilS)
def signs3 (done : List (Nat × Nat)) : List Value := done.map (fun p => .string ⟨#[p.1.toUInt8]⟩)
def Tab (B bb : Nat) (done : List (Nat × Nat)) (w : World) : Prop :=
  ∃ PA v, w.heap[bb]? = some (.cells (PA.push v) 140 (0, 0)) ∧ PA.size = 256 ∧ w.ownsRow B 9 1 v done.length (signs3 done) ∧ ∀ c, c < 256 → Slot w B PA done c
theorem own_type {w : World} {B : Nat} {e : TypeId} {size n : Nat} {v : Value} {xs : List Value} (h : w.ownsRow B e size v n xs) {k : Nat} (hk : v.ownBlock = some k) : ∃ cur, w.heap[k]? = some (.cells cur e (0, 0)) := by
  rcases h.2 with ⟨rfl, _⟩ | ⟨g, cap, cur, rfl, _, hh, _⟩
  · cases hk
  · cases hk; exact ⟨_, hh⟩
theorem own_keep {w w' : World} {base : Nat} {e : TypeId} {size n : Nat} {v : Value} {xs : List Value} (h : w.ownsRow base e size v n xs) (hk : ∀ (k : Nat) (cur : Array Value), w.heap[k]? = some (Obj.cells cur e (0, 0)) → w'.heap[k]? = w.heap[k]?) : w'.ownsRow base e size v n xs := by
  obtain ⟨h1, h2⟩ := h
  refine ⟨h1, ?_⟩
  rcases h2 with h2 | ⟨g, cap, cur, hv, hg, hh, h3⟩
  · exact .inl h2
  · exact .inr ⟨g, cap, cur, hv, hg, by rw [hk g cur hh]; exact hh, h3⟩
theorem bytes2 (W : World) (d : Nat) (hd : d < 256) : (Lib.bytesCells W 5 ⟨#[92, d.toUInt8]⟩)[0]? = some (.int .u8 92) ∧ (Lib.bytesCells W 5 ⟨#[92, d.toUInt8]⟩)[1]? = some (.int .u8 d) := by
  have e : ((⟨#[92, d.toUInt8]⟩ : ByteArray).data.map fun b => Value.int .u8 b.toNat) = #[.int .u8 92, .int .u8 (d : Int)] := by
    have h : d.toUInt8.toNat = d := by rw [Nat.toUInt8_eq, UInt8.toNat_ofNat']; omega
    simp only [List.map_toArray, List.map_cons, List.map_nil, h]
    rfl
  unfold Lib.bytesCells
  rw [e]
  exact ⟨by rw [Array.getElem?_append_left (by simp)]; rfl, by rw [Array.getElem?_append_left (by simp)]; rfl⟩
theorem lt_heap {w : World} {k : Nat} {o : Obj} (h : w.heap[k]? = some o) : k < w.heap.size := (Array.getElem?_eq_some_iff.1 h).1
theorem tab_step {B bb : Nat} {done : List (Nat × Nat)} {w w3 : World} {PA : Array Value} {v v' : Value} {o d : Nat} (h1 : w.heap[bb]? = some (.cells (PA.push v) 140 (0, 0))) (h2 : PA.size = 256)
    (h3 : w.ownsRow B 9 1 v done.length (signs3 done)) (h4 : ∀ c, c < 256 → Slot w B PA done c) (ho : o < 256) (hd : d < 256) (hnew : ∀ d, (o, d) ∉ done) (hB : B ≤ w3.heap.size) (hsz : w.heap.size ≤ w3.heap.size)
    (hown : w3.ownsRow B 9 1 v' (done.length + 1) (signs3 (done ++ [(o, d)]))) (hkeep : ∀ k, k < w.heap.size → v.ownBlock ≠ some k → w3.heap[k]? = w.heap[k]?) :
    Tab B bb (done ++ [(o, d)]) ((Lib.bytesWorld (w3.setCell ⟨bb, 256, none⟩ v') 5 ⟨#[92, d.toUInt8]⟩).setCell ⟨bb, o, none⟩ (.slice (some ⟨(w3.setCell ⟨bb, 256, none⟩ v').heap.size, 0, none⟩) 2 (grownCap (w3.setCell ⟨bb, 256, none⟩ v') 2 0 5))) := by
  have hne : ∀ {k t cur fr}, w.heap[k]? = some (.cells cur t fr) → t ≠ 9 → v.ownBlock ≠ some k := fun hk ht e => by
    obtain ⟨c2, hc2⟩ := own_type h3 e
    rw [hc2] at hk
    cases hk
    exact ht rfl
  have e3 : w3.heap[bb]? = some (.cells (PA.push v) 140 (0, 0)) := (hkeep bb (lt_heap h1) (hne h1 (by decide))).trans h1
  have ps : (PA.push v).setIfInBounds 256 v' = PA.push v' := by
    apply Array.ext_getElem?
    intro k
    rw [Array.getElem?_setIfInBounds, Array.getElem?_push, Array.getElem?_push, Array.size_push, h2]
    by_cases hk : k = 256
    · subst hk; simp
    · rw [if_neg (fun e => hk e.symm)]; simp [hk]
  have w4e : w3.setCell ⟨bb, 256, none⟩ v' = w3.setRow bb (PA.push v') := by rw [setCell_eq_setRow w3 bb 256 _ 140 (0, 0) v' e3, ps]
  rw [w4e]
  have e4 : (w3.setRow bb (PA.push v')).heap[bb]? = some (.cells (PA.push v') 140 (0, 0)) := setRow_heap _ _ _ _ _ _ e3
  have z4 : (w3.setRow bb (PA.push v')).heap.size = w3.heap.size := size_setRow _ _ _
  have hbb : bb < w3.heap.size := lt_heap e3
  generalize hS : (⟨#[92, d.toUInt8]⟩ : ByteArray) = S
  have e5 : (Lib.bytesWorld (w3.setRow bb (PA.push v')) 5 S).heap[bb]? = some (.cells (PA.push v') 140 (0, 0)) := by rw [Lib.bytesWorld_at_old _ _ _ _ (by rw [z4]; exact hbb)]; exact e4
  have ps2 : ∀ s, (PA.push v').setIfInBounds o s = (PA.setIfInBounds o s).push v' := fun s => by
    apply Array.ext_getElem?
    intro k
    rw [Array.getElem?_setIfInBounds, Array.getElem?_push, Array.getElem?_push, Array.size_push, Array.size_setIfInBounds, Array.getElem?_setIfInBounds, h2]
    by_cases hk : k = 256
    · subst hk; rw [if_neg (by omega)]; simp
    · by_cases ho' : o = k
      · subst ho'; simp [hk, ho]; omega
      · simp [hk, ho']
  generalize hs : Value.slice (some ⟨(w3.setRow bb (PA.push v')).heap.size, 0, none⟩) 2 (grownCap (w3.setRow bb (PA.push v')) 2 0 5) = s
  rw [setCell_eq_setRow _ bb o _ 140 (0, 0) s e5, ps2]
  have old5 : ∀ k, k < w3.heap.size → k ≠ bb → ((Lib.bytesWorld (w3.setRow bb (PA.push v')) 5 S).setRow bb ((PA.setIfInBounds o s).push v')).heap[k]? = w3.heap[k]? := fun k hk hkb => by
    rw [setRow_other _ _ _ _ hkb, Lib.bytesWorld_at_old _ _ _ _ (by rw [z4]; exact hk), setRow_other _ _ _ _ hkb]
  refine ⟨PA.setIfInBounds o s, v', setRow_heap _ _ _ _ _ _ e5, by rw [Array.size_setIfInBounds]; exact h2, ?_, ?_⟩
  · rw [List.length_append]
    refine own_keep hown (fun k cur hk => old5 k (lt_heap hk) (fun e => ?_))
    subst e
    rw [e3] at hk
    cases hk
  · intro c hc
    by_cases hco : c = o
    · subst hco
      refine .inl ⟨d, by simp, w3.heap.size, grownCap (w3.setRow bb (PA.push v')) 2 0 5, Lib.bytesCells (w3.setRow bb (PA.push v')) 5 S, ((Lib.bytesCells (w3.setRow bb (PA.push v')) 5 S).size, (Lib.bytesCells (w3.setRow bb (PA.push v')) 5 S).size + 1), ?_, hB, ?_, ?_, ?_⟩
      · rw [Array.getElem?_setIfInBounds, if_pos rfl, if_pos (by omega), ← hs, z4]
      · rw [setRow_other _ _ _ _ (by omega)]
        have := Lib.bytesWorld_at_new (w3.setRow bb (PA.push v')) 5 S
        rw [z4] at this
        exact this
      · subst hS; exact (bytes2 _ d hd).1
      · subst hS; exact (bytes2 _ d hd).2
    · have hg : (PA.setIfInBounds o s)[c]? = PA[c]? := by rw [Array.getElem?_setIfInBounds, if_neg (fun e => hco e.symm)]
      rcases h4 c hc with ⟨d', hm, g, cap, cur, fr, k1, k2, k3, k4, k5⟩ | ⟨k1, k2⟩
      · refine .inl ⟨d', by simp [hm], g, cap, cur, fr, by rw [hg]; exact k1, k2, ?_, k4, k5⟩
        have gb : g ≠ bb := fun e => by subst e; rw [h1] at k3; cases k3
        rw [old5 g (by have := lt_heap k3; omega) gb, hkeep g (lt_heap k3) (hne k3 (by decide))]
        exact k3
      · refine .inr ⟨fun d' hm => ?_, by rw [hg]; exact k2⟩
        rcases List.mem_append.1 hm with hm | hm
        · exact k1 d' hm
        · simp at hm; exact hco hm.1

theorem tab_zero (w : World) (X : Array Value) : Tab w.heap.size (w.heap.size + 1) [] ((w.alloc (.cells #[.string ⟨#[]⟩, .string ⟨#[]⟩, .string ⟨#[]⟩] 9)).alloc (.cells (tab0.push (.slice (some ⟨w.heap.size, 0, none⟩) 0 3)) 140)) := by
  refine ⟨tab0, _, heap_alloc2_new _ _ _, by simp [tab0], ⟨rfl, .inr ⟨w.heap.size, 3, _, rfl, Nat.le_refl _, heap_alloc2_old _ _ _, Nat.zero_le _, by decide, rfl, rfl⟩⟩, fun c hc => .inr ⟨fun d h => by simp at h, ?_⟩⟩
  unfold tab0
  rw [Array.getElem?_replicate, if_pos hc]
theorem bytes_cell (W : World) (s : ByteArray) (a : Addr) (h : a.block < W.heap.size) : (Lib.bytesWorld W 5 s).cell? a = W.cell? a := Lib.bytesWorld_old W 5 s a h
theorem bytes_frozen (W : World) (s : ByteArray) (a : Addr) (h : a.block < W.heap.size) : (Lib.bytesWorld W 5 s).frozen? a = W.frozen? a := by
  unfold World.frozen?
  rw [Lib.bytesWorld_at_old W 5 s a.block h]
theorem bytes_below {B : Nat} {W : World} (s : ByteArray) (hB : B ≤ W.heap.size) : Below B W (Lib.bytesWorld W 5 s) :=
  ⟨rfl, rfl, rfl, by rw [Lib.bytesWorld_size]; omega, fun k hk => Lib.bytesWorld_at_old W 5 s k (by omega)⟩
theorem conv_one (w : World) (x : UInt8) : (convert 115 9 (.slice (some ⟨w.heap.size, 0, none⟩) 1 1)).run Tryz.prog (w.alloc (.cells #[.int .u8 (x.toNat : Int)] 5)) = .ok (.string ⟨#[x]⟩) (w.alloc (.cells #[.int .u8 (x.toNat : Int)] 5)) :=
  run_convert_bytes_back (w.alloc (.cells #[.int .u8 (x.toNat : Int)] 5)) 115 9 5 ⟨w.heap.size, 0, none⟩ 1 [x] Tryz.underlying115 Tryz.underlying5 Tryz.underlying9 (by intro j hj; match j, hj with | 0, hj => simp [Addr.add])
theorem conv_bytes (s : ByteArray) (W : World) : (convert 9 115 (.string s)).run Tryz.prog W = .ok (.slice (some ⟨W.heap.size, 0, none⟩) s.size (grownCap W s.size 0 5)) (Lib.bytesWorld W 5 s) :=
  Lib.run_convert_string_bytes W 9 115 5 s Tryz.underlying9 Tryz.underlying115 Tryz.underlying5

set_option maxRecDepth 100000 in
set_option maxHeartbeats 4000000 in
theorem build_calls (b o c : Nat) (W : World) (h4 : W.cell? ⟨b, 4, none⟩ = some (.slice (some ⟨o, 0, none⟩) 6 c))
    (s0 : W.cell? ⟨o, 0, none⟩ = some (.string ⟨#[34]⟩)) (s1 : W.cell? ⟨o, 1, none⟩ = some (.string ⟨#[92, 34]⟩)) (s2 : W.cell? ⟨o, 2, none⟩ = some (.string ⟨#[92]⟩))
    (s3 : W.cell? ⟨o, 3, none⟩ = some (.string ⟨#[92, 92]⟩)) (s4 : W.cell? ⟨o, 4, none⟩ = some (.string ⟨#[10]⟩)) (s5 : W.cell? ⟨o, 5, none⟩ = some (.string ⟨#[92, 110]⟩)) :
    Calls Tryz.prog 85 #[.pointer (some ⟨b, 0, none⟩)] W fun e w' => e = .returned (.iface 141 (.pointer (some ⟨W.heap.size + 1, 0, none⟩))) ∧ Below W.heap.size W w' ∧ Tab W.heap.size (W.heap.size + 1) [(10, 110), (92, 92), (34, 34)] w' := by
  have hz := zero140
  go_enter Tryz.func85, Tryz.ntmps85
  go_wp2
  go_loopg [4, 5] 4 (fun gg v4 v5 wr => wr = W ∧ ((v4 = .bool true ∧ v5 = .int .i64 0 ∧ 4 ≤ gg) ∨ (v4 = .bool false ∧ v5 = .int .i64 2 ∧ 3 ≤ gg) ∨ (v4 = .bool false ∧ v5 = .int .i64 4 ∧ 2 ≤ gg) ∨ (v4 = .bool false ∧ v5 = .int .i64 6)))
  case atStart => exact ⟨rfl, .inl ⟨rfl, rfl, Nat.le_refl _⟩⟩
  case round =>
    obtain ⟨hw, hrel⟩ := hrel
    have hw := hw.symm
    subst hw
    rcases hrel with ⟨rfl, rfl, hg⟩ | ⟨rfl, rfl, hg⟩ | ⟨rfl, rfl, hg⟩ | ⟨rfl, rfl⟩
    · go_wp2
      go_roundg 3
      case measure => omega
      case rel => exact ⟨rfl, .inr (.inl ⟨rfl, rfl, Nat.le_refl _⟩)⟩
    · go_wp2
      go_roundg 2
      case measure => omega
      case rel => exact ⟨rfl, .inr (.inr (.inl ⟨rfl, rfl, Nat.le_refl _⟩))⟩
    · go_wp2
      go_roundg 1
      case measure => omega
      case rel => exact ⟨rfl, .inr (.inr (.inr ⟨rfl, rfl⟩))⟩
    · have hmk := make3
      have hbd := build140
      have hone : ∀ a n c, (tab0.push (.slice a n c)).all (·.oneCell') = true := fun a n c => all_tab _ rfl
      have Hone := Lib.hid hone
      clear hone
      have hbo : b < W.heap.size := K.lt_of_cell h4
      have hoo : o < W.heap.size := K.lt_of_cell s0
      obtain ⟨i0, hi, hz0, hz1, hz2⟩ := info_parts infoString
      go_wp2_with (refine wpList_store_row rfl 140 _ _ rfl (W.heap.size + 1) _ rfl rfl 140 _ (heap_alloc2_new _ _ _) size140 (by kernel_rfl) (Hone.out _ _ _) ?_; rw [set_second])
      have Htz := Lib.hid (tab_zero W #[])
      go_loopg [12] 4 (fun gg v wx => Hid (Below W.heap.size W wx) ∧ W.heap.size + 1 < wx.heap.size ∧ ((v = .int .i64 4 ∧ 4 ≤ gg ∧ Hid (Tab W.heap.size (W.heap.size + 1) [] wx)) ∨ (v = .int .i64 2 ∧ 3 ≤ gg ∧ Hid (Tab W.heap.size (W.heap.size + 1) [(10, 110)] wx)) ∨
        (v = .int .i64 0 ∧ 2 ≤ gg ∧ Hid (Tab W.heap.size (W.heap.size + 1) [(10, 110), (92, 92)] wx)) ∨ (v = .int .i64 (-2) ∧ Hid (Tab W.heap.size (W.heap.size + 1) [(10, 110), (92, 92), (34, 34)] wx))))
      case atStart => exact ⟨Lib.hid (((Below.refl _ W).alloc (Nat.le_refl _) _).alloc (by simp) _), by simp, .inl ⟨rfl, Nat.le_refl _, Htz⟩⟩
      case round =>
        clear Htz Hone hbd hmk hz
        obtain ⟨HB, hsz, hrel⟩ := hrel
        have s0' := (HB.out.cell (p := ⟨o, 0, none⟩) hoo).trans s0
        have s1' := (HB.out.cell (p := ⟨o, 1, none⟩) hoo).trans s1
        have s2' := (HB.out.cell (p := ⟨o, 2, none⟩) hoo).trans s2
        have s3' := (HB.out.cell (p := ⟨o, 3, none⟩) hoo).trans s3
        have s4' := (HB.out.cell (p := ⟨o, 4, none⟩) hoo).trans s4
        have s5' := (HB.out.cell (p := ⟨o, 5, none⟩) hoo).trans s5
        clear s0 s1 s2 s3 s4 s5 h4
        rcases hrel with ⟨rfl, hg, HT⟩ | ⟨rfl, hg, HT⟩ | ⟨rfl, hg, HT⟩ | ⟨rfl, HT⟩
        · obtain ⟨PA, v, q1, q2, q3, q4⟩ := HT.out
          have q5 : PA[10]? = some nilS := by
            rcases q4 10 (by decide) with ⟨d, hm, _⟩ | ⟨_, h⟩
            · simp at hm
            · exact h
          have k1 : wr.cell? ⟨W.heap.size + 1, 10, none⟩ = some (.slice none 0 0) := by rw [Lib.cell_of_heap q1, Array.getElem?_push, if_neg (by omega)]; exact q5
          have k2 : wr.cell? ⟨W.heap.size + 1, 256, none⟩ = some v := by rw [Lib.cell_of_heap q1, Array.getElem?_push, if_pos q2.symm]
          obtain ⟨A, c0, rfl⟩ := S.own_slice q3
          have b10 : ((⟨#[10]⟩ : ByteArray)[0]'(by decide)).toNat = 10 := rfl
          have hen := fun (a : Option Addr) (l c : Nat) (w : World) => eql_nil 115 5 Tryz.underlying115 a l c w
          have hcb := conv_bytes
          have hco : ∀ w : World, (convert 115 9 (.slice (some ⟨w.heap.size, 0, none⟩) 1 1)).run Tryz.prog (w.alloc (.cells #[.int .u8 10] 5)) = .ok (.string ⟨#[10]⟩) (w.alloc (.cells #[.int .u8 10] 5)) := fun w => conv_one w 10
          have k1' := q5
          clear HT
          have Q1 := Lib.hid q1
          have Q2 := Lib.hid q2
          have Q3 := Lib.hid q3
          have Q4 := Lib.hid q4
          clear q1 q2 q3 q4 q5
          go_wp2_with (at_builtin; refine wpList_append_own _ rfl _ _ 22 rfl W.heap.size 9 i0 _ 1 16 Tryz.underlying22 hi hz0 hz1 hz2 rfl (by decide) _ _ _ rfl ((Q3.out.alloc _).alloc _) ⟨wr.heap.size + 1, 0, none⟩ 1 1 [.string ⟨#[10]⟩] rfl rfl ?c1 ?c2 ?c3 ?c4 ?c5 ?_)
          case c1 =>
            intro j u hj
            match j, hj with
            | 0, hj => simp at hj; subst hj; simp [Addr.add]
          case c2 => intro u hu; simp at hu; subst hu; rfl
          case c3 => decide
          case c4 => decide
          case c5 => simp; omega
          intro v' w3 hown' hgrow _
          obtain ⟨A', c1, rfl⟩ := S.own_slice hown'
          have hz3 : wr.heap.size + 2 ≤ w3.heap.size := by have := hgrow.size; simpa using this
          have hkeep : ∀ k, k < wr.heap.size → some k ≠ (Value.slice A 0 c0).ownBlock → w3.heap[k]? = wr.heap[k]? := fun k hk hn => by
            rw [hgrow.block k (by simp; omega) hn, Lib.alloc_old _ _ _ (by simp; omega), Lib.alloc_old _ _ _ hk]
          have hT := tab_step (o := 10) (d := 110) Q1.out Q2.out Q3.out Q4.out (by decide) (by decide) (by intro d hm; simp at hm) (by omega) (by omega) hown' (fun k h1 h2 => hkeep k h1 (fun e => h2 e.symm))
          have hbb : w3.heap[W.heap.size + 1]? = some (.cells (PA.push (.slice A 0 c0)) 140 (0, 0)) := by
            rw [hkeep _ (lt_heap Q1.out) (fun e => by obtain ⟨c2, hc2⟩ := own_type Q3.out e.symm; rw [Q1.out] at hc2; cases hc2)]
            exact Q1.out
          have m1 : w3.cell? ⟨W.heap.size + 1, 256, none⟩ = some (.slice A 0 c0) := by rw [Lib.cell_of_heap hbb, Array.getElem?_push, if_pos Q2.out.symm]
          have m2 : w3.frozen? ⟨W.heap.size + 1, 256, none⟩ = false := Lib.frozen_of_heap hbb 256
          have hblt := lt_heap hbb
          have m3 : (Lib.bytesWorld (w3.setCell ⟨W.heap.size + 1, 256, none⟩ (.slice A' 1 c1)) 5 ⟨#[92, 110]⟩).cell? ⟨W.heap.size + 1, 10, none⟩ = some (.slice none 0 0) := by
            rw [bytes_cell _ _ _ (by simpa using hblt), World.cell?_setCell_other _ _ _ _ (by simp), Lib.cell_of_heap hbb, Array.getElem?_push, if_neg (by rw [Q2.out]; decide)]
            exact k1'
          have m4 : (Lib.bytesWorld (w3.setCell ⟨W.heap.size + 1, 256, none⟩ (.slice A' 1 c1)) 5 ⟨#[92, 110]⟩).frozen? ⟨W.heap.size + 1, 10, none⟩ = false := by
            rw [bytes_frozen _ _ _ (by simpa using hblt)]
            simpa using Lib.frozen_of_heap hbb 10
          have hB3 : Below W.heap.size W w3 := ((HB.out.alloc (by omega) _).alloc (by simp; omega) _).grown hgrow (by simp; omega) (fun k hk => (Q3.out.lt k hk).1)
          have hzz : (w3.setCell ⟨W.heap.size + 1, 256, none⟩ (.slice A' 1 c1)).heap.size = w3.heap.size := by simp
          rw [hzz] at hT
          have hBe : Below W.heap.size W ((Lib.bytesWorld (w3.setCell ⟨W.heap.size + 1, 256, none⟩ (.slice A' 1 c1)) 5 ⟨#[92, 110]⟩).setCell ⟨W.heap.size + 1, 10, none⟩ (.slice (some ⟨w3.heap.size, 0, none⟩) 2 (grownCap (w3.setCell ⟨W.heap.size + 1, 256, none⟩ (.slice A' 1 c1)) 2 0 5))) :=
            ((hB3.setCell (p := ⟨W.heap.size + 1, 256, none⟩) (by simp) _).trans (bytes_below _ (by rw [hzz]; omega))).setCell (p := ⟨W.heap.size + 1, 10, none⟩) (by simp) _
          have hze : W.heap.size + 1 < ((Lib.bytesWorld (w3.setCell ⟨W.heap.size + 1, 256, none⟩ (.slice A' 1 c1)) 5 ⟨#[92, 110]⟩).setCell ⟨W.heap.size + 1, 10, none⟩ (.slice (some ⟨w3.heap.size, 0, none⟩) 2 (grownCap (w3.setCell ⟨W.heap.size + 1, 256, none⟩ (.slice A' 1 c1)) 2 0 5))).heap.size := by
            rw [World.size_setCell, Lib.bytesWorld_size, hzz]; omega
          have HBe := Lib.hid hBe
          have Hze := Lib.hid hze
          clear hB3 hBe hze hzz
          have HT' := Lib.hid hT
          have Hgrow := Lib.hid hgrow
          have Hkeep := Lib.hid hkeep
          have Hown' := Lib.hid hown'
          clear hT hgrow hkeep hown' hbb
          go_wp2
          go_roundg 3
          case measure => omega
          case rel => exact ⟨HBe, Hze.out, .inr (.inl ⟨rfl, Nat.le_refl _, HT'⟩)⟩
        · obtain ⟨PA, v, q1, q2, q3, q4⟩ := HT.out
          have q5 : PA[92]? = some nilS := by
            rcases q4 92 (by decide) with ⟨d, hm, _⟩ | ⟨_, h⟩
            · simp at hm
            · exact h
          have k1 : wr.cell? ⟨W.heap.size + 1, 92, none⟩ = some (.slice none 0 0) := by rw [Lib.cell_of_heap q1, Array.getElem?_push, if_neg (by omega)]; exact q5
          have k2 : wr.cell? ⟨W.heap.size + 1, 256, none⟩ = some v := by rw [Lib.cell_of_heap q1, Array.getElem?_push, if_pos q2.symm]
          obtain ⟨A, c0, rfl⟩ := S.own_slice q3
          have b10 : ((⟨#[92]⟩ : ByteArray)[0]'(by decide)).toNat = 92 := rfl
          have hen := fun (a : Option Addr) (l c : Nat) (w : World) => eql_nil 115 5 Tryz.underlying115 a l c w
          have hcb := conv_bytes
          have hco : ∀ w : World, (convert 115 9 (.slice (some ⟨w.heap.size, 0, none⟩) 1 1)).run Tryz.prog (w.alloc (.cells #[.int .u8 92] 5)) = .ok (.string ⟨#[92]⟩) (w.alloc (.cells #[.int .u8 92] 5)) := fun w => conv_one w 92
          have k1' := q5
          clear HT
          have Q1 := Lib.hid q1
          have Q2 := Lib.hid q2
          have Q3 := Lib.hid q3
          have Q4 := Lib.hid q4
          clear q1 q2 q3 q4 q5
          go_wp2_with (at_builtin; refine wpList_append_own _ rfl _ _ 22 rfl W.heap.size 9 i0 _ 1 16 Tryz.underlying22 hi hz0 hz1 hz2 rfl (by decide) _ _ _ rfl ((Q3.out.alloc _).alloc _) ⟨wr.heap.size + 1, 0, none⟩ 1 1 [.string ⟨#[92]⟩] rfl rfl ?c1 ?c2 ?c3 ?c4 ?c5 ?_)
          case c1 =>
            intro j u hj
            match j, hj with
            | 0, hj => simp at hj; subst hj; simp [Addr.add]
          case c2 => intro u hu; simp at hu; subst hu; rfl
          case c3 => decide
          case c4 => decide
          case c5 => simp; omega
          intro v' w3 hown' hgrow _
          obtain ⟨A', c1, rfl⟩ := S.own_slice hown'
          have hz3 : wr.heap.size + 2 ≤ w3.heap.size := by have := hgrow.size; simpa using this
          have hkeep : ∀ k, k < wr.heap.size → some k ≠ (Value.slice A 1 c0).ownBlock → w3.heap[k]? = wr.heap[k]? := fun k hk hn => by
            rw [hgrow.block k (by simp; omega) hn, Lib.alloc_old _ _ _ (by simp; omega), Lib.alloc_old _ _ _ hk]
          have hT := tab_step (o := 92) (d := 92) Q1.out Q2.out Q3.out Q4.out (by decide) (by decide) (by intro d hm; simp at hm) (by omega) (by omega) hown' (fun k h1 h2 => hkeep k h1 (fun e => h2 e.symm))
          have hbb : w3.heap[W.heap.size + 1]? = some (.cells (PA.push (.slice A 1 c0)) 140 (0, 0)) := by
            rw [hkeep _ (lt_heap Q1.out) (fun e => by obtain ⟨c2, hc2⟩ := own_type Q3.out e.symm; rw [Q1.out] at hc2; cases hc2)]
            exact Q1.out
          have m1 : w3.cell? ⟨W.heap.size + 1, 256, none⟩ = some (.slice A 1 c0) := by rw [Lib.cell_of_heap hbb, Array.getElem?_push, if_pos Q2.out.symm]
          have m2 : w3.frozen? ⟨W.heap.size + 1, 256, none⟩ = false := Lib.frozen_of_heap hbb 256
          have hblt := lt_heap hbb
          have m3 : (Lib.bytesWorld (w3.setCell ⟨W.heap.size + 1, 256, none⟩ (.slice A' 2 c1)) 5 ⟨#[92, 92]⟩).cell? ⟨W.heap.size + 1, 92, none⟩ = some (.slice none 0 0) := by
            rw [bytes_cell _ _ _ (by simpa using hblt), World.cell?_setCell_other _ _ _ _ (by simp), Lib.cell_of_heap hbb, Array.getElem?_push, if_neg (by rw [Q2.out]; decide)]
            exact k1'
          have m4 : (Lib.bytesWorld (w3.setCell ⟨W.heap.size + 1, 256, none⟩ (.slice A' 2 c1)) 5 ⟨#[92, 92]⟩).frozen? ⟨W.heap.size + 1, 92, none⟩ = false := by
            rw [bytes_frozen _ _ _ (by simpa using hblt)]
            simpa using Lib.frozen_of_heap hbb 92
          have hB3 : Below W.heap.size W w3 := ((HB.out.alloc (by omega) _).alloc (by simp; omega) _).grown hgrow (by simp; omega) (fun k hk => (Q3.out.lt k hk).1)
          have hzz : (w3.setCell ⟨W.heap.size + 1, 256, none⟩ (.slice A' 2 c1)).heap.size = w3.heap.size := by simp
          rw [hzz] at hT
          have hBe : Below W.heap.size W ((Lib.bytesWorld (w3.setCell ⟨W.heap.size + 1, 256, none⟩ (.slice A' 2 c1)) 5 ⟨#[92, 92]⟩).setCell ⟨W.heap.size + 1, 92, none⟩ (.slice (some ⟨w3.heap.size, 0, none⟩) 2 (grownCap (w3.setCell ⟨W.heap.size + 1, 256, none⟩ (.slice A' 2 c1)) 2 0 5))) :=
            ((hB3.setCell (p := ⟨W.heap.size + 1, 256, none⟩) (by simp) _).trans (bytes_below _ (by rw [hzz]; omega))).setCell (p := ⟨W.heap.size + 1, 92, none⟩) (by simp) _
          have hze : W.heap.size + 1 < ((Lib.bytesWorld (w3.setCell ⟨W.heap.size + 1, 256, none⟩ (.slice A' 2 c1)) 5 ⟨#[92, 92]⟩).setCell ⟨W.heap.size + 1, 92, none⟩ (.slice (some ⟨w3.heap.size, 0, none⟩) 2 (grownCap (w3.setCell ⟨W.heap.size + 1, 256, none⟩ (.slice A' 2 c1)) 2 0 5))).heap.size := by
            rw [World.size_setCell, Lib.bytesWorld_size, hzz]; omega
          have HBe := Lib.hid hBe
          have Hze := Lib.hid hze
          clear hB3 hBe hze hzz
          have HT' := Lib.hid hT
          have Hgrow := Lib.hid hgrow
          have Hkeep := Lib.hid hkeep
          have Hown' := Lib.hid hown'
          clear hT hgrow hkeep hown' hbb
          go_wp2
          go_roundg 2
          case measure => omega
          case rel => exact ⟨HBe, Hze.out, .inr (.inr (.inl ⟨rfl, Nat.le_refl _, HT'⟩))⟩
        · obtain ⟨PA, v, q1, q2, q3, q4⟩ := HT.out
          have q5 : PA[34]? = some nilS := by
            rcases q4 34 (by decide) with ⟨d, hm, _⟩ | ⟨_, h⟩
            · simp at hm
            · exact h
          have k1 : wr.cell? ⟨W.heap.size + 1, 34, none⟩ = some (.slice none 0 0) := by rw [Lib.cell_of_heap q1, Array.getElem?_push, if_neg (by omega)]; exact q5
          have k2 : wr.cell? ⟨W.heap.size + 1, 256, none⟩ = some v := by rw [Lib.cell_of_heap q1, Array.getElem?_push, if_pos q2.symm]
          obtain ⟨A, c0, rfl⟩ := S.own_slice q3
          have b10 : ((⟨#[34]⟩ : ByteArray)[0]'(by decide)).toNat = 34 := rfl
          have hen := fun (a : Option Addr) (l c : Nat) (w : World) => eql_nil 115 5 Tryz.underlying115 a l c w
          have hcb := conv_bytes
          have hco : ∀ w : World, (convert 115 9 (.slice (some ⟨w.heap.size, 0, none⟩) 1 1)).run Tryz.prog (w.alloc (.cells #[.int .u8 34] 5)) = .ok (.string ⟨#[34]⟩) (w.alloc (.cells #[.int .u8 34] 5)) := fun w => conv_one w 34
          have k1' := q5
          clear HT
          have Q1 := Lib.hid q1
          have Q2 := Lib.hid q2
          have Q3 := Lib.hid q3
          have Q4 := Lib.hid q4
          clear q1 q2 q3 q4 q5
          go_wp2_with (at_builtin; refine wpList_append_own _ rfl _ _ 22 rfl W.heap.size 9 i0 _ 1 16 Tryz.underlying22 hi hz0 hz1 hz2 rfl (by decide) _ _ _ rfl ((Q3.out.alloc _).alloc _) ⟨wr.heap.size + 1, 0, none⟩ 1 1 [.string ⟨#[34]⟩] rfl rfl ?c1 ?c2 ?c3 ?c4 ?c5 ?_)
          case c1 =>
            intro j u hj
            match j, hj with
            | 0, hj => simp at hj; subst hj; simp [Addr.add]
          case c2 => intro u hu; simp at hu; subst hu; rfl
          case c3 => decide
          case c4 => decide
          case c5 => simp; omega
          intro v' w3 hown' hgrow _
          obtain ⟨A', c1, rfl⟩ := S.own_slice hown'
          have hz3 : wr.heap.size + 2 ≤ w3.heap.size := by have := hgrow.size; simpa using this
          have hkeep : ∀ k, k < wr.heap.size → some k ≠ (Value.slice A 2 c0).ownBlock → w3.heap[k]? = wr.heap[k]? := fun k hk hn => by
            rw [hgrow.block k (by simp; omega) hn, Lib.alloc_old _ _ _ (by simp; omega), Lib.alloc_old _ _ _ hk]
          have hT := tab_step (o := 34) (d := 34) Q1.out Q2.out Q3.out Q4.out (by decide) (by decide) (by intro d hm; simp at hm) (by omega) (by omega) hown' (fun k h1 h2 => hkeep k h1 (fun e => h2 e.symm))
          have hbb : w3.heap[W.heap.size + 1]? = some (.cells (PA.push (.slice A 2 c0)) 140 (0, 0)) := by
            rw [hkeep _ (lt_heap Q1.out) (fun e => by obtain ⟨c2, hc2⟩ := own_type Q3.out e.symm; rw [Q1.out] at hc2; cases hc2)]
            exact Q1.out
          have m1 : w3.cell? ⟨W.heap.size + 1, 256, none⟩ = some (.slice A 2 c0) := by rw [Lib.cell_of_heap hbb, Array.getElem?_push, if_pos Q2.out.symm]
          have m2 : w3.frozen? ⟨W.heap.size + 1, 256, none⟩ = false := Lib.frozen_of_heap hbb 256
          have hblt := lt_heap hbb
          have m3 : (Lib.bytesWorld (w3.setCell ⟨W.heap.size + 1, 256, none⟩ (.slice A' 3 c1)) 5 ⟨#[92, 34]⟩).cell? ⟨W.heap.size + 1, 34, none⟩ = some (.slice none 0 0) := by
            rw [bytes_cell _ _ _ (by simpa using hblt), World.cell?_setCell_other _ _ _ _ (by simp), Lib.cell_of_heap hbb, Array.getElem?_push, if_neg (by rw [Q2.out]; decide)]
            exact k1'
          have m4 : (Lib.bytesWorld (w3.setCell ⟨W.heap.size + 1, 256, none⟩ (.slice A' 3 c1)) 5 ⟨#[92, 34]⟩).frozen? ⟨W.heap.size + 1, 34, none⟩ = false := by
            rw [bytes_frozen _ _ _ (by simpa using hblt)]
            simpa using Lib.frozen_of_heap hbb 34
          have hB3 : Below W.heap.size W w3 := ((HB.out.alloc (by omega) _).alloc (by simp; omega) _).grown hgrow (by simp; omega) (fun k hk => (Q3.out.lt k hk).1)
          have hzz : (w3.setCell ⟨W.heap.size + 1, 256, none⟩ (.slice A' 3 c1)).heap.size = w3.heap.size := by simp
          rw [hzz] at hT
          have hBe : Below W.heap.size W ((Lib.bytesWorld (w3.setCell ⟨W.heap.size + 1, 256, none⟩ (.slice A' 3 c1)) 5 ⟨#[92, 34]⟩).setCell ⟨W.heap.size + 1, 34, none⟩ (.slice (some ⟨w3.heap.size, 0, none⟩) 2 (grownCap (w3.setCell ⟨W.heap.size + 1, 256, none⟩ (.slice A' 3 c1)) 2 0 5))) :=
            ((hB3.setCell (p := ⟨W.heap.size + 1, 256, none⟩) (by simp) _).trans (bytes_below _ (by rw [hzz]; omega))).setCell (p := ⟨W.heap.size + 1, 34, none⟩) (by simp) _
          have hze : W.heap.size + 1 < ((Lib.bytesWorld (w3.setCell ⟨W.heap.size + 1, 256, none⟩ (.slice A' 3 c1)) 5 ⟨#[92, 34]⟩).setCell ⟨W.heap.size + 1, 34, none⟩ (.slice (some ⟨w3.heap.size, 0, none⟩) 2 (grownCap (w3.setCell ⟨W.heap.size + 1, 256, none⟩ (.slice A' 3 c1)) 2 0 5))).heap.size := by
            rw [World.size_setCell, Lib.bytesWorld_size, hzz]; omega
          have HBe := Lib.hid hBe
          have Hze := Lib.hid hze
          clear hB3 hBe hze hzz
          have HT' := Lib.hid hT
          have Hgrow := Lib.hid hgrow
          have Hkeep := Lib.hid hkeep
          have Hown' := Lib.hid hown'
          clear hT hgrow hkeep hown' hbb
          go_wp2
          go_roundg 1
          case measure => omega
          case rel => exact ⟨HBe, Hze.out, .inr (.inr (.inr ⟨rfl, HT'⟩))⟩
        · go_wp2
          go_ret
          exact ⟨rfl, HB.out, HT.out⟩
end Go.Proofs.YtmkfeanggmjhmaaGreat.Rp
