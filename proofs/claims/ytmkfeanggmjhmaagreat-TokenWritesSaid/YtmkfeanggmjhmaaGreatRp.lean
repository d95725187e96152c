/- sync.Once at this program, one goroutine, not yet done (after the worked proofs on sync.Once, at this program's numbers). -/
import Derived.Test.YtmkfeanggmjhmaaGreatK
import Derived.Test.YtmkfeanggmjhmaaGreatProg
import Derived.Defers
import Derived.Laws.Pointers
import Derived.Laws.LoneSync
import Derived.RegionTactic
import Derived.RegionCalls
import Derived.Laws.NewBlocks
import Derived.Test.YtmkfeanggmjhmaaGreatBld
import Derived.Test.YtmkfeanggmjhmaaGreatSb
import Derived.Laws.Tables
import Derived.Laws.Rows
import Derived.Laws.Cover3
import Derived.Deep.WholeRow
import Derived.Deep.LoopGhost
import Derived.Lib.ConvBytes
import Derived.Laws.MakeOwn
import Derived.Laws.IdiomStrings
import Derived.Laws.BytesString
import Derived.Test.YtmkfeanggmjhmaaGreatShelf
import Derived.Laws.IdiomCopy
import Derived.WalkSmall
import Derived.Deep.RegionWith
namespace Go.Proofs.YtmkfeanggmjhmaaGreat.Rp
open Go Go.RowKit
set_option linter.unusedSimpArgs false
set_option linter.unusedVariables false

theorem disable (w : World) : (callFunc 101 #[]).run Tryz.prog w = .ok (.value (.tuple #[])) w := run_call_mark0 Tryz.func101 (by kernel_rfl) (by kernel_rfl) (by kernel_rfl) .disable (by kernel_rfl) w
theorem enable (w : World) : (callFunc 103 #[]).run Tryz.prog w = .ok (.value (.tuple #[])) w := run_call_mark0 Tryz.func103 (by kernel_rfl) (by kernel_rfl) (by kernel_rfl) .enable (by kernel_rfl) w
theorem acquire (a : Addr) (w : World) : (callFunc 104 #[.pointer (some a)]).run Tryz.prog w = .ok (.value (.tuple #[])) w := run_call_marked Tryz.func104 (by kernel_rfl) (by kernel_rfl) (by kernel_rfl) .acquire (by kernel_rfl) a w
theorem releaseMerge (a : Addr) (w : World) : (callFunc 106 #[.pointer (some a)]).run Tryz.prog w = .ok (.value (.tuple #[])) w := run_call_marked Tryz.func106 (by kernel_rfl) (by kernel_rfl) (by kernel_rfl) .releaseMerge (by kernel_rfl) a w

theorem store_deferred (a : Addr) (x : Value) (u : FrameMode) (w : World) (hc : w.cell? a = some x) (hz : w.frozen? a = false) :
    CallsD Tryz.prog 91 #[.pointer (some a), .bool true] u w fun e u' w' => u' = u ∧ (e = .returned (.tuple #[]) ∧ w' = w.drew.setCell a (.int .u32 1)) := by
  have hc' : w.drew.cell? a = some x := by go_simp
  have hz' : w.drew.frozen? a = false := by go_simp
  have hst := run_call_store (P := Tryz.prog) Tryz.func97 (by kernel_rfl) (by kernel_rfl) (by kernel_rfl) (by kernel_rfl) (k := .u32) (y := 1) hc' hz'
  go_enter_d Tryz.func91, Tryz.ntmps91
  go_wp2
  go_region_calls
  all_goals (go_end0; exact ⟨rfl, rfl⟩)

set_option maxRecDepth 100000 in
theorem unlock_deferred (a : Addr) (u : FrameMode) (w : World) (hc : w.cell? a = some (.int .i32 1)) (hz : w.frozen? a = false) :
    CallsD Tryz.prog 90 #[.pointer (some a)] u w fun e u' w' => u' = u ∧ (e = .returned (.tuple #[]) ∧ w' = w.setCell a (.int .i32 0)) := by
  have hd := disable
  have he := enable
  have hr := releaseMerge
  have hadd := run_call_add (P := Tryz.prog) Tryz.func107 (by kernel_rfl) (by kernel_rfl) (by kernel_rfl) .i32 (by kernel_rfl) (y := -1) (s := 0) hc hz (by simp [go_sem]; rfl)
  have hcv := run_convert_to_unsafe (P := Tryz.prog) (src := 158) (dst := 142) Tryz.underlying158 Tryz.underlying142 (by kernel_rfl) hc
  go_enter_d Tryz.func90, Tryz.ntmps90
  go_wp2
  go_end0
  go_wp2
  go_end0
  exact ⟨rfl, rfl⟩

set_option maxRecDepth 100000 in
theorem lock_free (a : Addr) (w : World) (hc : w.cell? a = some (.int .i32 0)) (hz : w.frozen? a = false) :
    Calls Tryz.prog 89 #[.pointer (some a)] w fun e w' => e = .returned (.tuple #[]) ∧ w' = w.setCell a (.int .i32 1) := by
  have hd := disable
  have he := enable
  have ha := acquire
  have hcas := run_call_cas_hit (P := Tryz.prog) Tryz.func102 (by kernel_rfl) (by kernel_rfl) (by kernel_rfl) .i32 (by kernel_rfl) (y := 1) hc hz
  have hc' : (w.setCell a (.int .i32 1)).cell? a = some (.int .i32 1) := World.cell?_setCell_same w a _ hc
  have hcv := run_convert_to_unsafe (P := Tryz.prog) (src := 158) (dst := 142) Tryz.underlying158 Tryz.underlying142 (by kernel_rfl) hc'
  go_enter Tryz.func89, Tryz.ntmps89
  go_wp2
  first | go_end0 | (simp only [Exit.inBlock, Exit.then]; refine bodyPost_ret (results_none rfl _ _ _) rfl ?_) | refine bodyPost_ret (results_none rfl _ _ _) rfl ?_
  go_wp2
  go_end0
  exact ⟨rfl, rfl⟩

/-- the world behind what Once calls: its two marks laid -/
def onceEnd (b : Nat) (W : World) : World := (W.drew.setCell ⟨b, 0, none⟩ (.int .u32 1)).setCell ⟨b, 1, none⟩ (.int .i32 0)

set_option maxRecDepth 100000 in
set_option maxHeartbeats 1600000 in
theorem slow_calls (b : Nat) (w : World) (h0 : w.cell? ⟨b, 0, none⟩ = some (.int .u32 0)) (h1 : w.cell? ⟨b, 1, none⟩ = some (.int .i32 0))
    (f0 : w.frozen? ⟨b, 0, none⟩ = false) (f1 : w.frozen? ⟨b, 1, none⟩ = false) (R : World → Prop)
    (hR : ∀ W, R W → W.cell? ⟨b, 0, none⟩ = some (.int .u32 0) ∧ W.cell? ⟨b, 1, none⟩ = some (.int .i32 1) ∧ W.frozen? ⟨b, 0, none⟩ = false ∧ W.frozen? ⟨b, 1, none⟩ = false)
    (hf : Calls Tryz.prog 74 #[.pointer (some ⟨b, 0, none⟩)] (w.setCell ⟨b, 1, none⟩ (.int .i32 1)) fun e w' => e = .returned (.tuple #[]) ∧ R w') :
    Calls Tryz.prog 84 #[.pointer (some ⟨b, 0, none⟩), .func (.func 74) #[.pointer (some ⟨b, 0, none⟩)] #[]] w fun e w' => e = .returned (.tuple #[]) ∧ ∃ W, R W ∧ w' = onceEnd b W := by
  have hl := run_call_load (P := Tryz.prog) Tryz.func88 (by kernel_rfl) (by kernel_rfl) (by kernel_rfl) .u32 (by kernel_rfl) (w := w.setCell ⟨b, 1, none⟩ (.int .i32 1)) (a := ⟨b, 0, none⟩) (x := 0) ((World.cell?_setCell_other _ ⟨b, 1, none⟩ ⟨b, 0, none⟩ _ (by simp)).trans h0)
  have hnot : ∀ (x : Bool) (w : World), (Op.unary .not (.bool x)).run Tryz.prog w = .ok (.bool (!x)) w := fun _ _ => rfl
  have HF := Lib.hid hf
  have HR := Lib.hid hR
  clear hf hR
  go_enter_defers Tryz.func84, Tryz.ntmps84
  go_wp2_with (first
    | (go_at_call 89; refine (lock_free ⟨b, 1, none⟩ _ (by go_simp) (by go_simp)).mono ?_; rintro e w' ⟨rfl, rfl⟩)
    | (go_at_call 83; go_in)
    | (go_at_call 74; refine HF.out.mono ?_; rintro e W ⟨rfl, hW⟩))
  obtain ⟨k0, k1, k2, k3⟩ := HR.out W hW
  refine leaves_cons (f := 91) (args := #[.pointer (some ⟨b, 0, none⟩), .bool true]) (by simp) (by simp [go_sem]) ?_
  refine (store_deferred ⟨b, 0, none⟩ (.int .u32 0) .returning _ k0 k2).mono ?_
  rintro e u' w'' ⟨rfl, rfl, rfl⟩
  refine leaves_cons (f := 90) (args := #[.pointer (some ⟨b, 1, none⟩)]) (by simp [settle]) (by simp [go_sem]) ?_
  refine (unlock_deferred ⟨b, 1, none⟩ _ _ ?_ ?_).mono ?_
  · refine (World.cell?_setCell_other _ ⟨b, 0, none⟩ ⟨b, 1, none⟩ _ (by simp)).trans ?_
    rw [World.cell?_drew]
    exact k1
  · simpa using k3
  rintro e u' w'' ⟨rfl, rfl, rfl⟩
  simp [Leaves, settle, results, Tryz.results84]
  exact ⟨W, hW, rfl⟩

theorem do_calls (b : Nat) (w : World) (h0 : w.cell? ⟨b, 0, none⟩ = some (.int .u32 0)) (h1 : w.cell? ⟨b, 1, none⟩ = some (.int .i32 0))
    (f0 : w.frozen? ⟨b, 0, none⟩ = false) (f1 : w.frozen? ⟨b, 1, none⟩ = false) (R : World → Prop)
    (hR : ∀ W, R W → W.cell? ⟨b, 0, none⟩ = some (.int .u32 0) ∧ W.cell? ⟨b, 1, none⟩ = some (.int .i32 1) ∧ W.frozen? ⟨b, 0, none⟩ = false ∧ W.frozen? ⟨b, 1, none⟩ = false)
    (hf : Calls Tryz.prog 74 #[.pointer (some ⟨b, 0, none⟩)] (w.setCell ⟨b, 1, none⟩ (.int .i32 1)) fun e w' => e = .returned (.tuple #[]) ∧ R w') :
    Calls Tryz.prog 73 #[.pointer (some ⟨b, 0, none⟩), .func (.func 74) #[.pointer (some ⟨b, 0, none⟩)] #[]] w fun e w' => e = .returned (.tuple #[]) ∧ ∃ W, R W ∧ w' = onceEnd b W := by
  have HS := Lib.hid (slow_calls b w h0 h1 f0 f1 R hR hf)
  have hl := run_call_load (P := Tryz.prog) Tryz.func88 (by kernel_rfl) (by kernel_rfl) (by kernel_rfl) .u32 (by kernel_rfl) h0
  have hnot : ∀ (x : Bool) (w : World), (Op.unary .not (.bool x)).run Tryz.prog w = .ok (.bool (!x)) w := fun _ _ => rfl
  clear hR hf
  go_enter Tryz.func73, Tryz.ntmps73
  go_wp2_with (first | (go_at_call 84; refine HS.out.mono ?_; rintro e w' ⟨rfl, hW⟩) | (go_at_call 83; go_in))
  go_end0
  exact ⟨rfl, hW⟩
end Go.Proofs.YtmkfeanggmjhmaaGreat.Rp
namespace Go.Proofs.YtmkfeanggmjhmaaGreat.Rp
open Go Go.RowKit
set_option linter.unusedSimpArgs false
set_option linter.unusedVariables false

def nilS : Value := .slice none 0 0
/-- the cells of a table of replacements -/
def tab0 : Array Value := Array.replicate 256 nilS
theorem info140 : (Tryz.prog.info? 140).map (fun i => (i.zero, i.size)) = some (some (.agg (tab0.push nilS)), 257) := by kernel_rfl
theorem zero140 (w : World) : (zeroValue 140).run Tryz.prog w = .ok (.agg (tab0.push nilS)) w := (zero_of_info info140).1 w
theorem size140 : (Tryz.prog.info? 140).map (·.size) = some 257 := (zero_of_info info140).2
theorem built140 (a : Option Addr) (n c : Nat) : Tryz.prog.built 140 [(1, .slice a n c)] = some (tab0.push (.slice a n c)) := by kernel_rfl
theorem build140 (a : Option Addr) (n c : Nat) (w : World) : (Instr.build 140 #[(1, .slice a n c)]).run Tryz.prog w = .ok (.agg (tab0.push (.slice a n c))) w := run_build w 140 _ _ (built140 a n c)
theorem infoString : (Tryz.prog.info? 9).map (fun i => (i.zero, i.size, i.bytes)) = some (some (.string ⟨#[]⟩), 1, 16) := by kernel_rfl
theorem make3 (w : World) : (Instr.makeSlice 22 (.int .i64 0) (.int .i64 3)).run Tryz.prog w = .ok (.slice (some ⟨w.heap.size, 0, none⟩) 0 3) (w.alloc (.cells #[.string ⟨#[]⟩, .string ⟨#[]⟩, .string ⟨#[]⟩] 9)) := by
  obtain ⟨i0, hi, hz0, hz1, hz2⟩ := info_parts infoString
  have := run_make (P := Tryz.prog) w 22 9 i0 _ Tryz.underlying22 hi hz0 .i64 .i64 0 3 (by decide) (by decide) (by rw [hz2]; decide) (by decide)
  rw [hz1] at this
  have e : madeCells (Value.string ⟨#[]⟩).cells (Int.toNat 3 * 1) = #[.string ⟨#[]⟩, .string ⟨#[]⟩, .string ⟨#[]⟩] := by simp [madeCells, Value.cells, Array.range_succ, Array.range_zero']
  rw [e] at this
  exact this
theorem eql_nil (t e : TypeId) (hu : Tryz.prog.underlying t = some (.slice e)) (a : Option Addr) (l c : Nat) (w : World) : (binOp .eql t (.slice a l c) (.slice none 0 0)).run Tryz.prog w = .ok (.bool a.isNone) w := by
  simp only [binOp]
  simp [run_equal_slice_nil w _ _ a l c hu]

theorem all_tab (v : Value) (h : v.oneCell' = true) : (tab0.push v).all (·.oneCell') = true := by
  rw [Array.all_eq_true_iff_forall_mem]
  intro x hx
  rcases Array.mem_push.1 hx with h' | rfl
  · unfold tab0 at h'
    rw [(Array.mem_replicate.1 h').2]
    rfl
  · exact h
theorem set_second (w : World) (X : Obj) (c c' : Array Value) (t : TypeId) : ((w.alloc X).alloc (.cells c t)).setRow (w.heap.size + 1) c' = (w.alloc X).alloc (.cells c' t) := by
  have := World.setRow_alloc_new (w.alloc X) c c' t
  rwa [World.size_alloc] at this
/-- what a byte's replacement is, of a table that is half done -/
def Slot (w : World) (B : Nat) (PA : Array Value) (done : List (Nat × Nat)) (c : Nat) : Prop :=
  (∃ d, (c, d) ∈ done ∧ ∃ g cap cur fr, PA[c]? = some (.slice (some ⟨g, 0, none⟩) 2 cap) ∧ B ≤ g ∧ w.heap[g]? = some (.cells cur 5 fr) ∧ cur[0]? = some (.int .u8 92) ∧ cur[1]? = some (.int .u8 d)) ∨
  ((∀ d, (c, d) ∉ done) ∧ PA[c]? = some nilS)
def signs3 (done : List (Nat × Nat)) : List Value := done.map (fun p => .string ⟨#[p.1.toUInt8]⟩)
def Tab (B bb : Nat) (done : List (Nat × Nat)) (w : World) : Prop :=
  ∃ PA v, w.heap[bb]? = some (.cells (PA.push v) 140 (0, 0)) ∧ PA.size = 256 ∧ w.ownsRow B 9 1 v done.length (signs3 done) ∧ ∀ c, c < 256 → Slot w B PA done c
theorem own_type {w : World} {B : Nat} {e : TypeId} {size n : Nat} {v : Value} {xs : List Value} (h : w.ownsRow B e size v n xs) {k : Nat} (hk : v.ownBlock = some k) : ∃ cur, w.heap[k]? = some (.cells cur e (0, 0)) := by
  rcases h.2 with ⟨rfl, _⟩ | ⟨g, cap, cur, rfl, _, hh, _⟩
  · cases hk
  · cases hk; exact ⟨_, hh⟩
theorem own_keep {w w' : World} {base : Nat} {e : TypeId} {size n : Nat} {v : Value} {xs : List Value} (h : w.ownsRow base e size v n xs) (hk : ∀ (k : Nat) (cur : Array Value), w.heap[k]? = some (Obj.cells cur e (0, 0)) → w'.heap[k]? = w.heap[k]?) : w'.ownsRow base e size v n xs := by
  obtain ⟨h1, h2⟩ := h
  refine ⟨h1, ?_⟩
  rcases h2 with h2 | ⟨g, cap, cur, hv, hg, hh, h3⟩
  · exact .inl h2
  · exact .inr ⟨g, cap, cur, hv, hg, by rw [hk g cur hh]; exact hh, h3⟩
theorem bytes2 (W : World) (d : Nat) (hd : d < 256) : (Lib.bytesCells W 5 ⟨#[92, d.toUInt8]⟩)[0]? = some (.int .u8 92) ∧ (Lib.bytesCells W 5 ⟨#[92, d.toUInt8]⟩)[1]? = some (.int .u8 d) := by
  have e : ((⟨#[92, d.toUInt8]⟩ : ByteArray).data.map fun b => Value.int .u8 b.toNat) = #[.int .u8 92, .int .u8 (d : Int)] := by
    have h : d.toUInt8.toNat = d := by rw [Nat.toUInt8_eq, UInt8.toNat_ofNat']; omega
    simp only [List.map_toArray, List.map_cons, List.map_nil, h]
    rfl
  unfold Lib.bytesCells
  rw [e]
  exact ⟨by rw [Array.getElem?_append_left (by simp)]; rfl, by rw [Array.getElem?_append_left (by simp)]; rfl⟩
theorem lt_heap {w : World} {k : Nat} {o : Obj} (h : w.heap[k]? = some o) : k < w.heap.size := (Array.getElem?_eq_some_iff.1 h).1
theorem tab_step {B bb : Nat} {done : List (Nat × Nat)} {w w3 : World} {PA : Array Value} {v v' : Value} {o d : Nat} (h1 : w.heap[bb]? = some (.cells (PA.push v) 140 (0, 0))) (h2 : PA.size = 256)
    (h3 : w.ownsRow B 9 1 v done.length (signs3 done)) (h4 : ∀ c, c < 256 → Slot w B PA done c) (ho : o < 256) (hd : d < 256) (hnew : ∀ d, (o, d) ∉ done) (hB : B ≤ w3.heap.size) (hsz : w.heap.size ≤ w3.heap.size)
    (hown : w3.ownsRow B 9 1 v' (done.length + 1) (signs3 (done ++ [(o, d)]))) (hkeep : ∀ k, k < w.heap.size → v.ownBlock ≠ some k → w3.heap[k]? = w.heap[k]?) :
    Tab B bb (done ++ [(o, d)]) ((Lib.bytesWorld (w3.setCell ⟨bb, 256, none⟩ v') 5 ⟨#[92, d.toUInt8]⟩).setCell ⟨bb, o, none⟩ (.slice (some ⟨(w3.setCell ⟨bb, 256, none⟩ v').heap.size, 0, none⟩) 2 (grownCap (w3.setCell ⟨bb, 256, none⟩ v') 2 0 5))) := by
  have hne : ∀ {k t cur fr}, w.heap[k]? = some (.cells cur t fr) → t ≠ 9 → v.ownBlock ≠ some k := fun hk ht e => by
    obtain ⟨c2, hc2⟩ := own_type h3 e
    rw [hc2] at hk
    cases hk
    exact ht rfl
  have e3 : w3.heap[bb]? = some (.cells (PA.push v) 140 (0, 0)) := (hkeep bb (lt_heap h1) (hne h1 (by decide))).trans h1
  have ps : (PA.push v).setIfInBounds 256 v' = PA.push v' := by
    apply Array.ext_getElem?
    intro k
    rw [Array.getElem?_setIfInBounds, Array.getElem?_push, Array.getElem?_push, Array.size_push, h2]
    by_cases hk : k = 256
    · subst hk; simp
    · rw [if_neg (fun e => hk e.symm)]; simp [hk]
  have w4e : w3.setCell ⟨bb, 256, none⟩ v' = w3.setRow bb (PA.push v') := by rw [setCell_eq_setRow w3 bb 256 _ 140 (0, 0) v' e3, ps]
  rw [w4e]
  have e4 : (w3.setRow bb (PA.push v')).heap[bb]? = some (.cells (PA.push v') 140 (0, 0)) := setRow_heap _ _ _ _ _ _ e3
  have z4 : (w3.setRow bb (PA.push v')).heap.size = w3.heap.size := size_setRow _ _ _
  have hbb : bb < w3.heap.size := lt_heap e3
  generalize hS : (⟨#[92, d.toUInt8]⟩ : ByteArray) = S
  have e5 : (Lib.bytesWorld (w3.setRow bb (PA.push v')) 5 S).heap[bb]? = some (.cells (PA.push v') 140 (0, 0)) := by rw [Lib.bytesWorld_at_old _ _ _ _ (by rw [z4]; exact hbb)]; exact e4
  have ps2 : ∀ s, (PA.push v').setIfInBounds o s = (PA.setIfInBounds o s).push v' := fun s => by
    apply Array.ext_getElem?
    intro k
    rw [Array.getElem?_setIfInBounds, Array.getElem?_push, Array.getElem?_push, Array.size_push, Array.size_setIfInBounds, Array.getElem?_setIfInBounds, h2]
    by_cases hk : k = 256
    · subst hk; rw [if_neg (by omega)]; simp
    · by_cases ho' : o = k
      · subst ho'; simp [hk, ho]; omega
      · simp [hk, ho']
  generalize hs : Value.slice (some ⟨(w3.setRow bb (PA.push v')).heap.size, 0, none⟩) 2 (grownCap (w3.setRow bb (PA.push v')) 2 0 5) = s
  rw [setCell_eq_setRow _ bb o _ 140 (0, 0) s e5, ps2]
  have old5 : ∀ k, k < w3.heap.size → k ≠ bb → ((Lib.bytesWorld (w3.setRow bb (PA.push v')) 5 S).setRow bb ((PA.setIfInBounds o s).push v')).heap[k]? = w3.heap[k]? := fun k hk hkb => by
    rw [setRow_other _ _ _ _ hkb, Lib.bytesWorld_at_old _ _ _ _ (by rw [z4]; exact hk), setRow_other _ _ _ _ hkb]
  refine ⟨PA.setIfInBounds o s, v', setRow_heap _ _ _ _ _ _ e5, by rw [Array.size_setIfInBounds]; exact h2, ?_, ?_⟩
  · rw [List.length_append]
    refine own_keep hown (fun k cur hk => old5 k (lt_heap hk) (fun e => ?_))
    subst e
    rw [e3] at hk
    cases hk
  · intro c hc
    by_cases hco : c = o
    · subst hco
      refine .inl ⟨d, by simp, w3.heap.size, grownCap (w3.setRow bb (PA.push v')) 2 0 5, Lib.bytesCells (w3.setRow bb (PA.push v')) 5 S, ((Lib.bytesCells (w3.setRow bb (PA.push v')) 5 S).size, (Lib.bytesCells (w3.setRow bb (PA.push v')) 5 S).size + 1), ?_, hB, ?_, ?_, ?_⟩
      · rw [Array.getElem?_setIfInBounds, if_pos rfl, if_pos (by omega), ← hs, z4]
      · rw [setRow_other _ _ _ _ (by omega)]
        have := Lib.bytesWorld_at_new (w3.setRow bb (PA.push v')) 5 S
        rw [z4] at this
        exact this
      · subst hS; exact (bytes2 _ d hd).1
      · subst hS; exact (bytes2 _ d hd).2
    · have hg : (PA.setIfInBounds o s)[c]? = PA[c]? := by rw [Array.getElem?_setIfInBounds, if_neg (fun e => hco e.symm)]
      rcases h4 c hc with ⟨d', hm, g, cap, cur, fr, k1, k2, k3, k4, k5⟩ | ⟨k1, k2⟩
      · refine .inl ⟨d', by simp [hm], g, cap, cur, fr, by rw [hg]; exact k1, k2, ?_, k4, k5⟩
        have gb : g ≠ bb := fun e => by subst e; rw [h1] at k3; cases k3
        rw [old5 g (by have := lt_heap k3; omega) gb, hkeep g (lt_heap k3) (hne k3 (by decide))]
        exact k3
      · refine .inr ⟨fun d' hm => ?_, by rw [hg]; exact k2⟩
        rcases List.mem_append.1 hm with hm | hm
        · exact k1 d' hm
        · simp at hm; exact hco hm.1

theorem tab_zero (w : World) (X : Array Value) : Tab w.heap.size (w.heap.size + 1) [] ((w.alloc (.cells #[.string ⟨#[]⟩, .string ⟨#[]⟩, .string ⟨#[]⟩] 9)).alloc (.cells (tab0.push (.slice (some ⟨w.heap.size, 0, none⟩) 0 3)) 140)) := by
  refine ⟨tab0, _, heap_alloc2_new _ _ _, by simp [tab0], ⟨rfl, .inr ⟨w.heap.size, 3, _, rfl, Nat.le_refl _, heap_alloc2_old _ _ _, Nat.zero_le _, by decide, rfl, rfl⟩⟩, fun c hc => .inr ⟨fun d h => by simp at h, ?_⟩⟩
  unfold tab0
  rw [Array.getElem?_replicate, if_pos hc]
theorem bytes_cell (W : World) (s : ByteArray) (a : Addr) (h : a.block < W.heap.size) : (Lib.bytesWorld W 5 s).cell? a = W.cell? a := Lib.bytesWorld_old W 5 s a h
theorem bytes_frozen (W : World) (s : ByteArray) (a : Addr) (h : a.block < W.heap.size) : (Lib.bytesWorld W 5 s).frozen? a = W.frozen? a := by
  unfold World.frozen?
  rw [Lib.bytesWorld_at_old W 5 s a.block h]
theorem bytes_below {B : Nat} {W : World} (s : ByteArray) (hB : B ≤ W.heap.size) : Below B W (Lib.bytesWorld W 5 s) :=
  ⟨rfl, rfl, rfl, by rw [Lib.bytesWorld_size]; omega, fun k hk => Lib.bytesWorld_at_old W 5 s k (by omega)⟩
theorem conv_one (w : World) (x : UInt8) : (convert 115 9 (.slice (some ⟨w.heap.size, 0, none⟩) 1 1)).run Tryz.prog (w.alloc (.cells #[.int .u8 (x.toNat : Int)] 5)) = .ok (.string ⟨#[x]⟩) (w.alloc (.cells #[.int .u8 (x.toNat : Int)] 5)) :=
  run_convert_bytes_back (w.alloc (.cells #[.int .u8 (x.toNat : Int)] 5)) 115 9 5 ⟨w.heap.size, 0, none⟩ 1 [x] Tryz.underlying115 Tryz.underlying5 Tryz.underlying9 (by intro j hj; match j, hj with | 0, hj => simp [Addr.add])
theorem conv_bytes (s : ByteArray) (W : World) : (convert 9 115 (.string s)).run Tryz.prog W = .ok (.slice (some ⟨W.heap.size, 0, none⟩) s.size (grownCap W s.size 0 5)) (Lib.bytesWorld W 5 s) :=
  Lib.run_convert_string_bytes W 9 115 5 s Tryz.underlying9 Tryz.underlying115 Tryz.underlying5

set_option maxRecDepth 100000 in
set_option maxHeartbeats 4000000 in
theorem build_calls (b o c : Nat) (W : World) (h4 : W.cell? ⟨b, 4, none⟩ = some (.slice (some ⟨o, 0, none⟩) 6 c))
    (s0 : W.cell? ⟨o, 0, none⟩ = some (.string ⟨#[34]⟩)) (s1 : W.cell? ⟨o, 1, none⟩ = some (.string ⟨#[92, 34]⟩)) (s2 : W.cell? ⟨o, 2, none⟩ = some (.string ⟨#[92]⟩))
    (s3 : W.cell? ⟨o, 3, none⟩ = some (.string ⟨#[92, 92]⟩)) (s4 : W.cell? ⟨o, 4, none⟩ = some (.string ⟨#[10]⟩)) (s5 : W.cell? ⟨o, 5, none⟩ = some (.string ⟨#[92, 110]⟩)) :
    Calls Tryz.prog 85 #[.pointer (some ⟨b, 0, none⟩)] W fun e w' => e = .returned (.iface 141 (.pointer (some ⟨W.heap.size + 1, 0, none⟩))) ∧ Below W.heap.size W w' ∧ Tab W.heap.size (W.heap.size + 1) [(10, 110), (92, 92), (34, 34)] w' := by
  have hz := zero140
  go_enter Tryz.func85, Tryz.ntmps85
  go_wp2
  go_loopg [4, 5] 4 (fun gg v4 v5 wr => wr = W ∧ ((v4 = .bool true ∧ v5 = .int .i64 0 ∧ 4 ≤ gg) ∨ (v4 = .bool false ∧ v5 = .int .i64 2 ∧ 3 ≤ gg) ∨ (v4 = .bool false ∧ v5 = .int .i64 4 ∧ 2 ≤ gg) ∨ (v4 = .bool false ∧ v5 = .int .i64 6)))
  case atStart => exact ⟨rfl, .inl ⟨rfl, rfl, Nat.le_refl _⟩⟩
  case round =>
    obtain ⟨hw, hrel⟩ := hrel
    have hw := hw.symm
    subst hw
    rcases hrel with ⟨rfl, rfl, hg⟩ | ⟨rfl, rfl, hg⟩ | ⟨rfl, rfl, hg⟩ | ⟨rfl, rfl⟩
    · go_wp2
      go_roundg 3
      case measure => omega
      case rel => exact ⟨rfl, .inr (.inl ⟨rfl, rfl, Nat.le_refl _⟩)⟩
    · go_wp2
      go_roundg 2
      case measure => omega
      case rel => exact ⟨rfl, .inr (.inr (.inl ⟨rfl, rfl, Nat.le_refl _⟩))⟩
    · go_wp2
      go_roundg 1
      case measure => omega
      case rel => exact ⟨rfl, .inr (.inr (.inr ⟨rfl, rfl⟩))⟩
    · have hmk := make3
      have hbd := build140
      have hone : ∀ a n c, (tab0.push (.slice a n c)).all (·.oneCell') = true := fun a n c => all_tab _ rfl
      have Hone := Lib.hid hone
      clear hone
      have hbo : b < W.heap.size := K.lt_of_cell h4
      have hoo : o < W.heap.size := K.lt_of_cell s0
      obtain ⟨i0, hi, hz0, hz1, hz2⟩ := info_parts infoString
      go_wp2_with (refine wpList_store_row rfl 140 _ _ rfl (W.heap.size + 1) _ rfl rfl 140 _ (heap_alloc2_new _ _ _) size140 (by kernel_rfl) (Hone.out _ _ _) ?_; rw [set_second])
      have Htz := Lib.hid (tab_zero W #[])
      go_loopg [12] 4 (fun gg v wx => Hid (Below W.heap.size W wx) ∧ W.heap.size + 1 < wx.heap.size ∧ ((v = .int .i64 4 ∧ 4 ≤ gg ∧ Hid (Tab W.heap.size (W.heap.size + 1) [] wx)) ∨ (v = .int .i64 2 ∧ 3 ≤ gg ∧ Hid (Tab W.heap.size (W.heap.size + 1) [(10, 110)] wx)) ∨
        (v = .int .i64 0 ∧ 2 ≤ gg ∧ Hid (Tab W.heap.size (W.heap.size + 1) [(10, 110), (92, 92)] wx)) ∨ (v = .int .i64 (-2) ∧ Hid (Tab W.heap.size (W.heap.size + 1) [(10, 110), (92, 92), (34, 34)] wx))))
      case atStart => exact ⟨Lib.hid (((Below.refl _ W).alloc (Nat.le_refl _) _).alloc (by simp) _), by simp, .inl ⟨rfl, Nat.le_refl _, Htz⟩⟩
      case round =>
        clear Htz Hone hbd hmk hz
        obtain ⟨HB, hsz, hrel⟩ := hrel
        have s0' := (HB.out.cell (p := ⟨o, 0, none⟩) hoo).trans s0
        have s1' := (HB.out.cell (p := ⟨o, 1, none⟩) hoo).trans s1
        have s2' := (HB.out.cell (p := ⟨o, 2, none⟩) hoo).trans s2
        have s3' := (HB.out.cell (p := ⟨o, 3, none⟩) hoo).trans s3
        have s4' := (HB.out.cell (p := ⟨o, 4, none⟩) hoo).trans s4
        have s5' := (HB.out.cell (p := ⟨o, 5, none⟩) hoo).trans s5
        clear s0 s1 s2 s3 s4 s5 h4
        rcases hrel with ⟨rfl, hg, HT⟩ | ⟨rfl, hg, HT⟩ | ⟨rfl, hg, HT⟩ | ⟨rfl, HT⟩
        · obtain ⟨PA, v, q1, q2, q3, q4⟩ := HT.out
          have q5 : PA[10]? = some nilS := by
            rcases q4 10 (by decide) with ⟨d, hm, _⟩ | ⟨_, h⟩
            · simp at hm
            · exact h
          have k1 : wr.cell? ⟨W.heap.size + 1, 10, none⟩ = some (.slice none 0 0) := by rw [Lib.cell_of_heap q1, Array.getElem?_push, if_neg (by omega)]; exact q5
          have k2 : wr.cell? ⟨W.heap.size + 1, 256, none⟩ = some v := by rw [Lib.cell_of_heap q1, Array.getElem?_push, if_pos q2.symm]
          obtain ⟨A, c0, rfl⟩ := S.own_slice q3
          have b10 : ((⟨#[10]⟩ : ByteArray)[0]'(by decide)).toNat = 10 := rfl
          have hen := fun (a : Option Addr) (l c : Nat) (w : World) => eql_nil 115 5 Tryz.underlying115 a l c w
          have hcb := conv_bytes
          have hco : ∀ w : World, (convert 115 9 (.slice (some ⟨w.heap.size, 0, none⟩) 1 1)).run Tryz.prog (w.alloc (.cells #[.int .u8 10] 5)) = .ok (.string ⟨#[10]⟩) (w.alloc (.cells #[.int .u8 10] 5)) := fun w => conv_one w 10
          have k1' := q5
          clear HT
          have Q1 := Lib.hid q1
          have Q2 := Lib.hid q2
          have Q3 := Lib.hid q3
          have Q4 := Lib.hid q4
          clear q1 q2 q3 q4 q5
          go_wp2_with (at_builtin; refine wpList_append_own _ rfl _ _ 22 rfl W.heap.size 9 i0 _ 1 16 Tryz.underlying22 hi hz0 hz1 hz2 rfl (by decide) _ _ _ rfl ((Q3.out.alloc _).alloc _) ⟨wr.heap.size + 1, 0, none⟩ 1 1 [.string ⟨#[10]⟩] rfl rfl ?c1 ?c2 ?c3 ?c4 ?c5 ?_)
          case c1 =>
            intro j u hj
            match j, hj with
            | 0, hj => simp at hj; subst hj; simp [Addr.add]
          case c2 => intro u hu; simp at hu; subst hu; rfl
          case c3 => decide
          case c4 => decide
          case c5 => simp; omega
          intro v' w3 hown' hgrow _
          obtain ⟨A', c1, rfl⟩ := S.own_slice hown'
          have hz3 : wr.heap.size + 2 ≤ w3.heap.size := by have := hgrow.size; simpa using this
          have hkeep : ∀ k, k < wr.heap.size → some k ≠ (Value.slice A 0 c0).ownBlock → w3.heap[k]? = wr.heap[k]? := fun k hk hn => by
            rw [hgrow.block k (by simp; omega) hn, Lib.alloc_old _ _ _ (by simp; omega), Lib.alloc_old _ _ _ hk]
          have hT := tab_step (o := 10) (d := 110) Q1.out Q2.out Q3.out Q4.out (by decide) (by decide) (by intro d hm; simp at hm) (by omega) (by omega) hown' (fun k h1 h2 => hkeep k h1 (fun e => h2 e.symm))
          have hbb : w3.heap[W.heap.size + 1]? = some (.cells (PA.push (.slice A 0 c0)) 140 (0, 0)) := by
            rw [hkeep _ (lt_heap Q1.out) (fun e => by obtain ⟨c2, hc2⟩ := own_type Q3.out e.symm; rw [Q1.out] at hc2; cases hc2)]
            exact Q1.out
          have m1 : w3.cell? ⟨W.heap.size + 1, 256, none⟩ = some (.slice A 0 c0) := by rw [Lib.cell_of_heap hbb, Array.getElem?_push, if_pos Q2.out.symm]
          have m2 : w3.frozen? ⟨W.heap.size + 1, 256, none⟩ = false := Lib.frozen_of_heap hbb 256
          have hblt := lt_heap hbb
          have m3 : (Lib.bytesWorld (w3.setCell ⟨W.heap.size + 1, 256, none⟩ (.slice A' 1 c1)) 5 ⟨#[92, 110]⟩).cell? ⟨W.heap.size + 1, 10, none⟩ = some (.slice none 0 0) := by
            rw [bytes_cell _ _ _ (by simpa using hblt), World.cell?_setCell_other _ _ _ _ (by simp), Lib.cell_of_heap hbb, Array.getElem?_push, if_neg (by rw [Q2.out]; decide)]
            exact k1'
          have m4 : (Lib.bytesWorld (w3.setCell ⟨W.heap.size + 1, 256, none⟩ (.slice A' 1 c1)) 5 ⟨#[92, 110]⟩).frozen? ⟨W.heap.size + 1, 10, none⟩ = false := by
            rw [bytes_frozen _ _ _ (by simpa using hblt)]
            simpa using Lib.frozen_of_heap hbb 10
          have hB3 : Below W.heap.size W w3 := ((HB.out.alloc (by omega) _).alloc (by simp; omega) _).grown hgrow (by simp; omega) (fun k hk => (Q3.out.lt k hk).1)
          have hzz : (w3.setCell ⟨W.heap.size + 1, 256, none⟩ (.slice A' 1 c1)).heap.size = w3.heap.size := by simp
          rw [hzz] at hT
          have hBe : Below W.heap.size W ((Lib.bytesWorld (w3.setCell ⟨W.heap.size + 1, 256, none⟩ (.slice A' 1 c1)) 5 ⟨#[92, 110]⟩).setCell ⟨W.heap.size + 1, 10, none⟩ (.slice (some ⟨w3.heap.size, 0, none⟩) 2 (grownCap (w3.setCell ⟨W.heap.size + 1, 256, none⟩ (.slice A' 1 c1)) 2 0 5))) :=
            ((hB3.setCell (p := ⟨W.heap.size + 1, 256, none⟩) (by simp) _).trans (bytes_below _ (by rw [hzz]; omega))).setCell (p := ⟨W.heap.size + 1, 10, none⟩) (by simp) _
          have hze : W.heap.size + 1 < ((Lib.bytesWorld (w3.setCell ⟨W.heap.size + 1, 256, none⟩ (.slice A' 1 c1)) 5 ⟨#[92, 110]⟩).setCell ⟨W.heap.size + 1, 10, none⟩ (.slice (some ⟨w3.heap.size, 0, none⟩) 2 (grownCap (w3.setCell ⟨W.heap.size + 1, 256, none⟩ (.slice A' 1 c1)) 2 0 5))).heap.size := by
            rw [World.size_setCell, Lib.bytesWorld_size, hzz]; omega
          have HBe := Lib.hid hBe
          have Hze := Lib.hid hze
          clear hB3 hBe hze hzz
          have HT' := Lib.hid hT
          have Hgrow := Lib.hid hgrow
          have Hkeep := Lib.hid hkeep
          have Hown' := Lib.hid hown'
          clear hT hgrow hkeep hown' hbb
          go_wp2
          go_roundg 3
          case measure => omega
          case rel => exact ⟨HBe, Hze.out, .inr (.inl ⟨rfl, Nat.le_refl _, HT'⟩)⟩
        · obtain ⟨PA, v, q1, q2, q3, q4⟩ := HT.out
          have q5 : PA[92]? = some nilS := by
            rcases q4 92 (by decide) with ⟨d, hm, _⟩ | ⟨_, h⟩
            · simp at hm
            · exact h
          have k1 : wr.cell? ⟨W.heap.size + 1, 92, none⟩ = some (.slice none 0 0) := by rw [Lib.cell_of_heap q1, Array.getElem?_push, if_neg (by omega)]; exact q5
          have k2 : wr.cell? ⟨W.heap.size + 1, 256, none⟩ = some v := by rw [Lib.cell_of_heap q1, Array.getElem?_push, if_pos q2.symm]
          obtain ⟨A, c0, rfl⟩ := S.own_slice q3
          have b10 : ((⟨#[92]⟩ : ByteArray)[0]'(by decide)).toNat = 92 := rfl
          have hen := fun (a : Option Addr) (l c : Nat) (w : World) => eql_nil 115 5 Tryz.underlying115 a l c w
          have hcb := conv_bytes
          have hco : ∀ w : World, (convert 115 9 (.slice (some ⟨w.heap.size, 0, none⟩) 1 1)).run Tryz.prog (w.alloc (.cells #[.int .u8 92] 5)) = .ok (.string ⟨#[92]⟩) (w.alloc (.cells #[.int .u8 92] 5)) := fun w => conv_one w 92
          have k1' := q5
          clear HT
          have Q1 := Lib.hid q1
          have Q2 := Lib.hid q2
          have Q3 := Lib.hid q3
          have Q4 := Lib.hid q4
          clear q1 q2 q3 q4 q5
          go_wp2_with (at_builtin; refine wpList_append_own _ rfl _ _ 22 rfl W.heap.size 9 i0 _ 1 16 Tryz.underlying22 hi hz0 hz1 hz2 rfl (by decide) _ _ _ rfl ((Q3.out.alloc _).alloc _) ⟨wr.heap.size + 1, 0, none⟩ 1 1 [.string ⟨#[92]⟩] rfl rfl ?c1 ?c2 ?c3 ?c4 ?c5 ?_)
          case c1 =>
            intro j u hj
            match j, hj with
            | 0, hj => simp at hj; subst hj; simp [Addr.add]
          case c2 => intro u hu; simp at hu; subst hu; rfl
          case c3 => decide
          case c4 => decide
          case c5 => simp; omega
          intro v' w3 hown' hgrow _
          obtain ⟨A', c1, rfl⟩ := S.own_slice hown'
          have hz3 : wr.heap.size + 2 ≤ w3.heap.size := by have := hgrow.size; simpa using this
          have hkeep : ∀ k, k < wr.heap.size → some k ≠ (Value.slice A 1 c0).ownBlock → w3.heap[k]? = wr.heap[k]? := fun k hk hn => by
            rw [hgrow.block k (by simp; omega) hn, Lib.alloc_old _ _ _ (by simp; omega), Lib.alloc_old _ _ _ hk]
          have hT := tab_step (o := 92) (d := 92) Q1.out Q2.out Q3.out Q4.out (by decide) (by decide) (by intro d hm; simp at hm) (by omega) (by omega) hown' (fun k h1 h2 => hkeep k h1 (fun e => h2 e.symm))
          have hbb : w3.heap[W.heap.size + 1]? = some (.cells (PA.push (.slice A 1 c0)) 140 (0, 0)) := by
            rw [hkeep _ (lt_heap Q1.out) (fun e => by obtain ⟨c2, hc2⟩ := own_type Q3.out e.symm; rw [Q1.out] at hc2; cases hc2)]
            exact Q1.out
          have m1 : w3.cell? ⟨W.heap.size + 1, 256, none⟩ = some (.slice A 1 c0) := by rw [Lib.cell_of_heap hbb, Array.getElem?_push, if_pos Q2.out.symm]
          have m2 : w3.frozen? ⟨W.heap.size + 1, 256, none⟩ = false := Lib.frozen_of_heap hbb 256
          have hblt := lt_heap hbb
          have m3 : (Lib.bytesWorld (w3.setCell ⟨W.heap.size + 1, 256, none⟩ (.slice A' 2 c1)) 5 ⟨#[92, 92]⟩).cell? ⟨W.heap.size + 1, 92, none⟩ = some (.slice none 0 0) := by
            rw [bytes_cell _ _ _ (by simpa using hblt), World.cell?_setCell_other _ _ _ _ (by simp), Lib.cell_of_heap hbb, Array.getElem?_push, if_neg (by rw [Q2.out]; decide)]
            exact k1'
          have m4 : (Lib.bytesWorld (w3.setCell ⟨W.heap.size + 1, 256, none⟩ (.slice A' 2 c1)) 5 ⟨#[92, 92]⟩).frozen? ⟨W.heap.size + 1, 92, none⟩ = false := by
            rw [bytes_frozen _ _ _ (by simpa using hblt)]
            simpa using Lib.frozen_of_heap hbb 92
          have hB3 : Below W.heap.size W w3 := ((HB.out.alloc (by omega) _).alloc (by simp; omega) _).grown hgrow (by simp; omega) (fun k hk => (Q3.out.lt k hk).1)
          have hzz : (w3.setCell ⟨W.heap.size + 1, 256, none⟩ (.slice A' 2 c1)).heap.size = w3.heap.size := by simp
          rw [hzz] at hT
          have hBe : Below W.heap.size W ((Lib.bytesWorld (w3.setCell ⟨W.heap.size + 1, 256, none⟩ (.slice A' 2 c1)) 5 ⟨#[92, 92]⟩).setCell ⟨W.heap.size + 1, 92, none⟩ (.slice (some ⟨w3.heap.size, 0, none⟩) 2 (grownCap (w3.setCell ⟨W.heap.size + 1, 256, none⟩ (.slice A' 2 c1)) 2 0 5))) :=
            ((hB3.setCell (p := ⟨W.heap.size + 1, 256, none⟩) (by simp) _).trans (bytes_below _ (by rw [hzz]; omega))).setCell (p := ⟨W.heap.size + 1, 92, none⟩) (by simp) _
          have hze : W.heap.size + 1 < ((Lib.bytesWorld (w3.setCell ⟨W.heap.size + 1, 256, none⟩ (.slice A' 2 c1)) 5 ⟨#[92, 92]⟩).setCell ⟨W.heap.size + 1, 92, none⟩ (.slice (some ⟨w3.heap.size, 0, none⟩) 2 (grownCap (w3.setCell ⟨W.heap.size + 1, 256, none⟩ (.slice A' 2 c1)) 2 0 5))).heap.size := by
            rw [World.size_setCell, Lib.bytesWorld_size, hzz]; omega
          have HBe := Lib.hid hBe
          have Hze := Lib.hid hze
          clear hB3 hBe hze hzz
          have HT' := Lib.hid hT
          have Hgrow := Lib.hid hgrow
          have Hkeep := Lib.hid hkeep
          have Hown' := Lib.hid hown'
          clear hT hgrow hkeep hown' hbb
          go_wp2
          go_roundg 2
          case measure => omega
          case rel => exact ⟨HBe, Hze.out, .inr (.inr (.inl ⟨rfl, Nat.le_refl _, HT'⟩))⟩
        · obtain ⟨PA, v, q1, q2, q3, q4⟩ := HT.out
          have q5 : PA[34]? = some nilS := by
            rcases q4 34 (by decide) with ⟨d, hm, _⟩ | ⟨_, h⟩
            · simp at hm
            · exact h
          have k1 : wr.cell? ⟨W.heap.size + 1, 34, none⟩ = some (.slice none 0 0) := by rw [Lib.cell_of_heap q1, Array.getElem?_push, if_neg (by omega)]; exact q5
          have k2 : wr.cell? ⟨W.heap.size + 1, 256, none⟩ = some v := by rw [Lib.cell_of_heap q1, Array.getElem?_push, if_pos q2.symm]
          obtain ⟨A, c0, rfl⟩ := S.own_slice q3
          have b10 : ((⟨#[34]⟩ : ByteArray)[0]'(by decide)).toNat = 34 := rfl
          have hen := fun (a : Option Addr) (l c : Nat) (w : World) => eql_nil 115 5 Tryz.underlying115 a l c w
          have hcb := conv_bytes
          have hco : ∀ w : World, (convert 115 9 (.slice (some ⟨w.heap.size, 0, none⟩) 1 1)).run Tryz.prog (w.alloc (.cells #[.int .u8 34] 5)) = .ok (.string ⟨#[34]⟩) (w.alloc (.cells #[.int .u8 34] 5)) := fun w => conv_one w 34
          have k1' := q5
          clear HT
          have Q1 := Lib.hid q1
          have Q2 := Lib.hid q2
          have Q3 := Lib.hid q3
          have Q4 := Lib.hid q4
          clear q1 q2 q3 q4 q5
          go_wp2_with (at_builtin; refine wpList_append_own _ rfl _ _ 22 rfl W.heap.size 9 i0 _ 1 16 Tryz.underlying22 hi hz0 hz1 hz2 rfl (by decide) _ _ _ rfl ((Q3.out.alloc _).alloc _) ⟨wr.heap.size + 1, 0, none⟩ 1 1 [.string ⟨#[34]⟩] rfl rfl ?c1 ?c2 ?c3 ?c4 ?c5 ?_)
          case c1 =>
            intro j u hj
            match j, hj with
            | 0, hj => simp at hj; subst hj; simp [Addr.add]
          case c2 => intro u hu; simp at hu; subst hu; rfl
          case c3 => decide
          case c4 => decide
          case c5 => simp; omega
          intro v' w3 hown' hgrow _
          obtain ⟨A', c1, rfl⟩ := S.own_slice hown'
          have hz3 : wr.heap.size + 2 ≤ w3.heap.size := by have := hgrow.size; simpa using this
          have hkeep : ∀ k, k < wr.heap.size → some k ≠ (Value.slice A 2 c0).ownBlock → w3.heap[k]? = wr.heap[k]? := fun k hk hn => by
            rw [hgrow.block k (by simp; omega) hn, Lib.alloc_old _ _ _ (by simp; omega), Lib.alloc_old _ _ _ hk]
          have hT := tab_step (o := 34) (d := 34) Q1.out Q2.out Q3.out Q4.out (by decide) (by decide) (by intro d hm; simp at hm) (by omega) (by omega) hown' (fun k h1 h2 => hkeep k h1 (fun e => h2 e.symm))
          have hbb : w3.heap[W.heap.size + 1]? = some (.cells (PA.push (.slice A 2 c0)) 140 (0, 0)) := by
            rw [hkeep _ (lt_heap Q1.out) (fun e => by obtain ⟨c2, hc2⟩ := own_type Q3.out e.symm; rw [Q1.out] at hc2; cases hc2)]
            exact Q1.out
          have m1 : w3.cell? ⟨W.heap.size + 1, 256, none⟩ = some (.slice A 2 c0) := by rw [Lib.cell_of_heap hbb, Array.getElem?_push, if_pos Q2.out.symm]
          have m2 : w3.frozen? ⟨W.heap.size + 1, 256, none⟩ = false := Lib.frozen_of_heap hbb 256
          have hblt := lt_heap hbb
          have m3 : (Lib.bytesWorld (w3.setCell ⟨W.heap.size + 1, 256, none⟩ (.slice A' 3 c1)) 5 ⟨#[92, 34]⟩).cell? ⟨W.heap.size + 1, 34, none⟩ = some (.slice none 0 0) := by
            rw [bytes_cell _ _ _ (by simpa using hblt), World.cell?_setCell_other _ _ _ _ (by simp), Lib.cell_of_heap hbb, Array.getElem?_push, if_neg (by rw [Q2.out]; decide)]
            exact k1'
          have m4 : (Lib.bytesWorld (w3.setCell ⟨W.heap.size + 1, 256, none⟩ (.slice A' 3 c1)) 5 ⟨#[92, 34]⟩).frozen? ⟨W.heap.size + 1, 34, none⟩ = false := by
            rw [bytes_frozen _ _ _ (by simpa using hblt)]
            simpa using Lib.frozen_of_heap hbb 34
          have hB3 : Below W.heap.size W w3 := ((HB.out.alloc (by omega) _).alloc (by simp; omega) _).grown hgrow (by simp; omega) (fun k hk => (Q3.out.lt k hk).1)
          have hzz : (w3.setCell ⟨W.heap.size + 1, 256, none⟩ (.slice A' 3 c1)).heap.size = w3.heap.size := by simp
          rw [hzz] at hT
          have hBe : Below W.heap.size W ((Lib.bytesWorld (w3.setCell ⟨W.heap.size + 1, 256, none⟩ (.slice A' 3 c1)) 5 ⟨#[92, 34]⟩).setCell ⟨W.heap.size + 1, 34, none⟩ (.slice (some ⟨w3.heap.size, 0, none⟩) 2 (grownCap (w3.setCell ⟨W.heap.size + 1, 256, none⟩ (.slice A' 3 c1)) 2 0 5))) :=
            ((hB3.setCell (p := ⟨W.heap.size + 1, 256, none⟩) (by simp) _).trans (bytes_below _ (by rw [hzz]; omega))).setCell (p := ⟨W.heap.size + 1, 34, none⟩) (by simp) _
          have hze : W.heap.size + 1 < ((Lib.bytesWorld (w3.setCell ⟨W.heap.size + 1, 256, none⟩ (.slice A' 3 c1)) 5 ⟨#[92, 34]⟩).setCell ⟨W.heap.size + 1, 34, none⟩ (.slice (some ⟨w3.heap.size, 0, none⟩) 2 (grownCap (w3.setCell ⟨W.heap.size + 1, 256, none⟩ (.slice A' 3 c1)) 2 0 5))).heap.size := by
            rw [World.size_setCell, Lib.bytesWorld_size, hzz]; omega
          have HBe := Lib.hid hBe
          have Hze := Lib.hid hze
          clear hB3 hBe hze hzz
          have HT' := Lib.hid hT
          have Hgrow := Lib.hid hgrow
          have Hkeep := Lib.hid hkeep
          have Hown' := Lib.hid hown'
          clear hT hgrow hkeep hown' hbb
          go_wp2
          go_roundg 1
          case measure => omega
          case rel => exact ⟨HBe, Hze.out, .inr (.inr (.inr ⟨rfl, HT'⟩))⟩
        · go_wp2
          go_ret
          exact ⟨rfl, HB.out, HT.out⟩
end Go.Proofs.YtmkfeanggmjhmaaGreat.Rp
namespace Go.Proofs.YtmkfeanggmjhmaaGreat.Rp
open Go Go.RowKit
set_option linter.unusedSimpArgs false
set_option linter.unusedVariables false

def spec (c : UInt8) : Option UInt8 := if c = 10 then some 110 else if c = 92 then some 92 else if c = 34 then some 34 else none
def esc (c : UInt8) : List UInt8 := match spec c with
  | some d => [92, d]
  | none => [c]
/-- a text in which a string's signs are escaped -/
def escL (s : List UInt8) : List UInt8 := s.flatMap esc
def cnt (s : List UInt8) : Nat := s.countP (fun c => (spec c).isSome)
theorem escL_len (s : List UInt8) : (escL s).length = s.length + cnt s := by
  induction s with
  | nil => rfl
  | cons c r ih =>
    unfold escL cnt at *
    rw [List.flatMap_cons, List.length_append, ih, List.countP_cons, List.length_cons]
    unfold esc
    cases spec c <;> simp <;> omega
theorem escL_same (s : List UInt8) (h : cnt s = 0) : escL s = s := by
  induction s with
  | nil => rfl
  | cons c r ih =>
    unfold cnt at h
    rw [List.countP_cons] at h
    have h1 : spec c = none := by
      cases hc : spec c with
      | none => rfl
      | some d => rw [hc] at h; simp at h
    unfold escL
    rw [List.flatMap_cons]
    have := ih (by unfold cnt; omega)
    unfold escL at this
    rw [this]
    unfold esc
    rw [h1]
    rfl
theorem cnt_split (s : List UInt8) : cnt s = s.count 10 + s.count 92 + s.count 34 := by
  induction s with
  | nil => rfl
  | cons c r ih =>
    unfold cnt at *
    rw [List.countP_cons, ih, List.count_cons, List.count_cons, List.count_cons]
    unfold spec
    by_cases h1 : c = 10
    · subst h1; simp; omega
    · by_cases h2 : c = 92
      · subst h2; simp; omega
      · by_cases h3 : c = 34
        · subst h3; simp; omega
        · simp [h1, h2, h3]
theorem cnt_take (s : List UInt8) (i : Nat) (h : i < s.length) : cnt (s.take (i + 1)) = cnt (s.take i) + (if (spec (s[i]'h)).isSome then 1 else 0) := by
  unfold cnt
  rw [List.take_add_one, List.getElem?_eq_getElem h, List.countP_append]
  simp [List.countP_cons]
theorem escL_take (s : List UInt8) (i : Nat) (h : i < s.length) : escL (s.take (i + 1)) = escL (s.take i) ++ esc (s[i]'h) := by
  unfold escL
  rw [List.take_add_one, List.getElem?_eq_getElem h, List.flatMap_append]
  simp
theorem cnt_le (s : List UInt8) : cnt s ≤ s.length := List.countP_le_length

def full : List (Nat × Nat) := [(10, 110), (92, 92), (34, 34)]
theorem tab_cell {B bb : Nat} {w : World} (T : Tab B bb full w) (c : UInt8) :
    match spec c with
    | none => w.cell? ⟨bb, c.toNat, none⟩ = some (.slice none 0 0)
    | some d => ∃ g cap, w.cell? ⟨bb, c.toNat, none⟩ = some (.slice (some ⟨g, 0, none⟩) 2 cap) ∧ w.cell? ⟨g, 0, none⟩ = some (.int .u8 92) ∧ w.cell? ⟨g, 1, none⟩ = some (.int .u8 (d.toNat : Int)) := by
  obtain ⟨PA, v, h1, h2, h3, h4⟩ := T
  have hc : c.toNat < 256 := c.toNat_lt
  have hcell : w.cell? ⟨bb, c.toNat, none⟩ = PA[c.toNat]? := by rw [Lib.cell_of_heap h1, Array.getElem?_push, if_neg (by omega)]
  rw [hcell]
  have key : ∀ d : UInt8, (c.toNat, d.toNat) ∈ full → (∀ d', (c.toNat, d') ∈ full → d' = d.toNat) → ∃ g cap, PA[c.toNat]? = some (.slice (some ⟨g, 0, none⟩) 2 cap) ∧ w.cell? ⟨g, 0, none⟩ = some (.int .u8 92) ∧ w.cell? ⟨g, 1, none⟩ = some (.int .u8 (d.toNat : Int)) := by
    intro d hm hu
    rcases h4 c.toNat hc with ⟨d', hm', g, cap, cur, fr, k1, k2, k3, k4, k5⟩ | ⟨k1, k2⟩
    · have := hu d' hm'
      subst this
      exact ⟨g, cap, k1, by rw [Lib.cell_of_heap k3]; exact k4, by rw [Lib.cell_of_heap k3]; exact k5⟩
    · exact absurd hm (k1 _)
  by_cases e1 : c = 10
  · subst e1
    exact key 110 (by decide) (by intro d' h; simp [full] at h; exact h)
  · by_cases e2 : c = 92
    · subst e2
      exact key 92 (by decide) (by intro d' h; simp [full] at h; exact h)
    · by_cases e3 : c = 34
      · subst e3
        exact key 34 (by decide) (by intro d' h; simp [full] at h; exact h)
      · have hs : spec c = none := by unfold spec; rw [if_neg e1, if_neg e2, if_neg e3]
        rw [hs]
        rcases h4 c.toNat hc with ⟨d', hm', _⟩ | ⟨k1, k2⟩
        · exfalso
          simp only [full, List.mem_cons, Prod.mk.injEq, List.not_mem_nil, or_false] at hm'
          rcases hm' with ⟨h, _⟩ | ⟨h, _⟩ | ⟨h, _⟩
          · exact e1 (UInt8.toNat_inj.1 h)
          · exact e2 (UInt8.toNat_inj.1 h)
          · exact e3 (UInt8.toNat_inj.1 h)
        · exact k2
theorem tab_strs {B bb : Nat} {w : World} (T : Tab B bb full w) : ∃ h cap, w.cell? ⟨bb, 256, none⟩ = some (.slice (some ⟨h, 0, none⟩) 3 cap) ∧ w.cell? ⟨h, 0, none⟩ = some (.string ⟨#[10]⟩) ∧ w.cell? ⟨h, 1, none⟩ = some (.string ⟨#[92]⟩) ∧ w.cell? ⟨h, 2, none⟩ = some (.string ⟨#[34]⟩) := by
  obtain ⟨PA, v, h1, h2, h3, h4⟩ := T
  obtain ⟨_, h3⟩ := h3
  rcases h3 with ⟨_, hn⟩ | ⟨g, cap, cur, rfl, hg, hh, hc, hm, hs, ht⟩
  · simp [full] at hn
  · refine ⟨g, cap, by rw [Lib.cell_of_heap h1, Array.getElem?_push, if_pos h2.symm]; rfl, ?_, ?_, ?_⟩
    all_goals
      rw [Lib.cell_of_heap hh, ← Array.getElem?_toList]
      have e : cur.toList.take 3 = signs3 full := ht
      have hi : ∀ j, j < 3 → cur.toList[j]? = (signs3 full)[j]? := fun j hj => by rw [← e, List.getElem?_take, if_pos hj]
      rw [hi _ (by decide)]
      rfl
theorem tab_below {B bb : Nat} {done : List (Nat × Nat)} {w w' : World} (T : Tab B bb done w) (h : Below w.heap.size w w') : Tab B bb done w' := by
  obtain ⟨PA, v, h1, h2, h3, h4⟩ := T
  refine ⟨PA, v, by rw [h.block _ (lt_heap h1)]; exact h1, h2, own_keep h3 (fun k cur hk => h.block k (lt_heap hk)), fun c hc => ?_⟩
  rcases h4 c hc with ⟨d, hm, g, cap, cur, fr, k1, k2, k3, k4⟩ | h
  · exact .inl ⟨d, hm, g, cap, cur, fr, k1, k2, by rw [h.block _ (lt_heap k3)]; exact k3, k4⟩
  · exact .inr h

/-- a buffer of n bytes, of which the first ones are written -/
def bufC (done : List UInt8) (n : Nat) : Array Value := (Lib.byteCells done ++ List.replicate (n - done.length) (Value.int .u8 0)).toArray
theorem bufC_zero (n : Nat) : bufC [] n = Array.replicate n (.int .u8 0) := by
  apply Array.ext'
  rw [Array.toList_replicate]
  simp [bufC, Lib.byteCells]
theorem bufC_put (done : List UInt8) (n : Nat) (c : UInt8) (h : done.length < n) : (bufC done n).setIfInBounds done.length (.int .u8 (c.toNat : Int)) = bufC (done ++ [c]) n := by
  apply Array.ext'
  rw [Array.toList_setIfInBounds]
  obtain ⟨m, hm⟩ : ∃ m, n - done.length = m + 1 := ⟨n - done.length - 1, by omega⟩
  have e2 : n - (done ++ [c]).length = m := by rw [List.length_append, List.length_cons, List.length_nil]; omega
  simp only [bufC, hm, e2]
  rw [List.set_append_right _ _ (by rw [Lib.byteCells_length]; exact Nat.le_refl _), Lib.byteCells_length, Nat.sub_self, List.replicate_succ, List.set_cons_zero]
  simp [Lib.byteCells]
theorem bufC_full (done : List UInt8) (n : Nat) (h : done.length = n) : bufC done n = (Lib.byteCells done).toArray := by
  unfold bufC
  rw [show n - done.length = 0 by omega, List.replicate_zero, List.append_nil]
theorem bufC_size (done : List UInt8) (n : Nat) (h : done.length ≤ n) : (bufC done n).size = n := by
  simp only [bufC, List.size_toArray, List.length_append, Lib.byteCells_length, List.length_replicate]; omega
theorem made_bytes (n : Nat) : madeCells (Value.int .u8 0).cells n = Array.replicate n (.int .u8 0) := by
  unfold madeCells
  apply Array.ext'
  rw [Array.toList_map, Array.toList_replicate, List.eq_replicate_iff]
  refine ⟨by simp, fun b hb => ?_⟩
  obtain ⟨x, _, rfl⟩ := List.mem_map.1 hb
  have e : x % (Value.int .u8 0).cells.size = 0 := Nat.mod_one x
  rw [e]
  rfl
end Go.Proofs.YtmkfeanggmjhmaaGreat.Rp
namespace Go.Proofs.YtmkfeanggmjhmaaGreat.Rp
open Go Go.RowKit
set_option linter.unusedSimpArgs false
set_option linter.unusedVariables false

theorem neq_nil (a : Option Addr) (l c : Nat) (w : World) : (binOp .neq 115 (.slice a l c) (.slice none 0 0)).run Tryz.prog w = .ok (.bool (!a.isNone)) w := run_neq_slice_nil w 115 5 a l c Tryz.underlying115
theorem make_bytes (n : Nat) (h : n ≤ 1000000000) (w : World) : (Instr.makeSlice 115 (.int .i64 (n : Int)) (.int .i64 (n : Int))).run Tryz.prog w = .ok (.slice (some ⟨w.heap.size, 0, none⟩) n n) (w.alloc (.cells (bufC [] n) 5)) := by
  obtain ⟨i0, hi, hz0, hz1, hz2⟩ := info_parts Bld.infoByte
  have := run_make (P := Tryz.prog) w 115 5 i0 _ Tryz.underlying115 hi hz0 .i64 .i64 (n : Int) (n : Int) (by omega) (Int.le_refl _) (by rw [hz2]; omega) (by omega)
  rw [hz1, Int.toNat_natCast, Nat.mul_one, made_bytes] at this
  rw [bufC_zero]
  exact this
theorem addr_add (k q : Nat) : (⟨k, 0, none⟩ : Addr).add q = ⟨k, q, none⟩ := by unfold Addr.add; split <;> simp_all
theorem escL_take_le (s : List UInt8) (i : Nat) : (escL (s.take i)).length ≤ (escL s).length := by
  have e : escL s = escL (s.take i) ++ escL (s.drop i) := by
    unfold escL
    rw [← List.flatMap_append, List.take_append_drop]
  rw [e, List.length_append]
  omega
theorem put_heap {w : World} {k j n : Nat} {done : List UInt8} {c : UInt8} (hh : w.heap[k]? = some (.cells (bufC done n) 5 (0, 0))) (hj : j = done.length) (h : done.length < n) :
    (w.setCell ⟨k, j, none⟩ (.int .u8 (c.toNat : Int))).heap[k]? = some (.cells (bufC (done ++ [c]) n) 5 (0, 0)) := by
  subst hj
  rw [setCell_eq_setRow w k _ _ 5 (0, 0) _ hh, bufC_put _ _ _ h]
  exact setRow_heap _ _ _ _ _ _ hh
theorem copy_two' (w : World) (k g j n m cap c2 : Nat) (d : UInt8) (done : List UInt8) (h : done.length + 2 ≤ n) (hj : j = done.length) (hm : m = n - j) (c0 : w.cell? ⟨g, 0, none⟩ = some (.int .u8 92)) (c1 : w.cell? ⟨g, 1, none⟩ = some (.int .u8 (d.toNat : Int)))
    (hk : w.heap[k]? = some (.cells (bufC done n) 5 (0, 0))) : (Builtin.copy_ #[115, 115] 3 #[.slice (some ⟨k, j, none⟩) m c2, .slice (some ⟨g, 0, none⟩) 2 cap]).run Tryz.prog w = .ok (.int .i64 2) ((w.setCell ⟨k, j, none⟩ (.int .u8 92)).setCell ⟨k, j + 1, none⟩ (.int .u8 (d.toNat : Int))) := by
  subst hj hm
  have := run_copy_cells (P := Tryz.prog) w 115 115 3 5 k done.length (n - done.length) c2 ⟨g, 0, none⟩ 2 cap [.int .u8 92, .int .u8 (d.toNat : Int)] Tryz.underlying115 (by kernel_rfl) (by show 2 = min 2 (n - done.length); omega)
    (by intro i v hi; match i, hi with | 0, hi => simp at hi; subst hi; simpa [Addr.add] using c0 | 1, hi => simp at hi; subst hi; simpa [Addr.add] using c1)
    (by intro i hi; have hi : i < 2 := hi; rw [Lib.cell_of_heap hk, Array.getElem?_eq_getElem (by rw [bufC_size done n (by omega)]; omega)]; rfl)
    (by intro i hi; exact Lib.frozen_of_heap hk _) (by intro v hv; simp at hv; rcases hv with rfl | rfl <;> rfl)
  rw [this]
  rfl
theorem tab_cell' {w wr : World} {bb nd : Nat} (hw : wr = w.drewN nd) (h : ∀ c : UInt8, match spec c with
    | none => w.cell? ⟨bb, c.toNat, none⟩ = some (.slice none 0 0)
    | some d => ∃ g cap, w.cell? ⟨bb, c.toNat, none⟩ = some (.slice (some ⟨g, 0, none⟩) 2 cap) ∧ w.cell? ⟨g, 0, none⟩ = some (.int .u8 92) ∧ w.cell? ⟨g, 1, none⟩ = some (.int .u8 (d.toNat : Int))) (c : UInt8) :
    match spec c with
    | none => wr.cell? ⟨bb, c.toNat, none⟩ = some (.slice none 0 0)
    | some d => ∃ g cap, wr.cell? ⟨bb, c.toNat, none⟩ = some (.slice (some ⟨g, 0, none⟩) 2 cap) ∧ wr.cell? ⟨g, 0, none⟩ = some (.int .u8 92) ∧ wr.cell? ⟨g, 1, none⟩ = some (.int .u8 (d.toNat : Int)) := by
  subst hw
  exact h c

set_option maxRecDepth 100000 in
set_option maxHeartbeats 4000000 in
theorem Replace_calls (B bb : Nat) (w : World) (T : Tab B bb full w) (s : ByteArray) (hs : s.size ≤ 1000000) :
    Calls Tryz.prog 147 #[.pointer (some ⟨bb, 0, none⟩), .string s] w fun r w' => r = .returned (.string ⟨(escL s.data.toList).toArray⟩) ∧ Below w.heap.size w w' := by
  obtain ⟨h, cap, t0, t1, t2, t3⟩ := tab_strs T
  have HT := Lib.hid (tab_cell T)
  have hcl := cnt_le s.data.toList
  have hsl : s.data.toList.length = s.size := rfl
  have HL := Lib.hid (escL_len s.data.toList)
  have HS := Lib.hid (cnt_split s.data.toList)
  have hnq := neq_nil
  have hnot : ∀ (x : Bool) (w : World), (Op.unary .not (.bool x)).run Tryz.prog w = .ok (.bool (!x)) w := fun _ _ => rfl
  clear T
  by_cases h24 : 24 ≤ s.size
  · have g24 : (24 : Int) ≤ (s.size : Int) := by omega
    go_enter Tryz.func147, Tryz.ntmps147
    go_wp2
    have HC10 := Lib.hid (fun w => Tryz.strings_Count_one s 10 w)
    have HC92 := Lib.hid (fun w => Tryz.strings_Count_one s 92 w)
    have HC34 := Lib.hid (fun w => Tryz.strings_Count_one s 34 w)
    unfold Lib.countByte at HC10 HC92 HC34
    have l10 : s.data.toList.count 10 ≤ s.size := by rw [← hsl]; exact List.count_le_length
    have l92 : s.data.toList.count 92 ≤ s.size := by rw [← hsl]; exact List.count_le_length
    have l34 : s.data.toList.count 34 ≤ s.size := by rw [← hsl]; exact List.count_le_length
    generalize s.data.toList.count 10 = k10 at HC10 HS l10
    generalize s.data.toList.count 92 = k92 at HC92 HS l92
    generalize s.data.toList.count 34 = k34 at HC34 HS l34
    have h10 := HT.out 10
    have h92 := HT.out 92
    have h34 := HT.out 34
    obtain ⟨g10, c10, a10, _, _⟩ := h10
    obtain ⟨g92, c92, a92, _, _⟩ := h92
    obtain ⟨g34, c34, a34, _, _⟩ := h34
    have b10 : ((⟨#[10]⟩ : ByteArray)[0]'(by decide)).toNat = 10 := rfl
    have b92 : ((⟨#[92]⟩ : ByteArray)[0]'(by decide)).toNat = 92 := rfl
    have b34 : ((⟨#[34]⟩ : ByteArray)[0]'(by decide)).toNat = 34 := rfl
    have a10' : w.cell? ⟨bb, 10, none⟩ = _ := a10
    have a92' : w.cell? ⟨bb, 92, none⟩ = _ := a92
    have a34' : w.cell? ⟨bb, 34, none⟩ = _ := a34
    clear a10 a92 a34
    go_loopg [5, 6, 32] 4 (fun gg v5 v6 v32 wr => Hid (∃ nd, wr = w.drewN nd) ∧ ∃ m : Nat, v5 = .int .i64 ((s.size + m : Nat) : Int) ∧ v6 = .bool (decide (0 < m)) ∧ ((v32 = .int .i64 0 ∧ m = 0 ∧ 4 ≤ gg) ∨ (v32 = .int .i64 1 ∧ m = k10 ∧ 3 ≤ gg) ∨ (v32 = .int .i64 2 ∧ m = k10 + k92 ∧ 2 ≤ gg) ∨ (v32 = .int .i64 3 ∧ m = k10 + k92 + k34)))
    case atStart => exact ⟨⟨0, rfl⟩, 0, by simp, rfl, .inl ⟨rfl, rfl, Nat.le_refl _⟩⟩
    case round =>
      obtain ⟨HW, m, rfl, rfl, hrel⟩ := hrel
      have hw := HW.out
      obtain ⟨nd, hw⟩ := hw
      have q0 : wr.cell? ⟨bb, 256, none⟩ = _ := (congrArg (fun x => World.cell? x ⟨bb, 256, none⟩) hw).trans t0
      have q1 : wr.cell? ⟨h, 0, none⟩ = _ := (congrArg (fun x => World.cell? x ⟨h, 0, none⟩) hw).trans t1
      have q2 : wr.cell? ⟨h, 1, none⟩ = _ := (congrArg (fun x => World.cell? x ⟨h, 1, none⟩) hw).trans t2
      have q3 : wr.cell? ⟨h, 2, none⟩ = _ := (congrArg (fun x => World.cell? x ⟨h, 2, none⟩) hw).trans t3
      have r10 : wr.cell? ⟨bb, 10, none⟩ = _ := (congrArg (fun x => World.cell? x ⟨bb, 10, none⟩) hw).trans a10'
      have r92 : wr.cell? ⟨bb, 92, none⟩ = _ := (congrArg (fun x => World.cell? x ⟨bb, 92, none⟩) hw).trans a92'
      have r34 : wr.cell? ⟨bb, 34, none⟩ = _ := (congrArg (fun x => World.cell? x ⟨bb, 34, none⟩) hw).trans a34'
      have Hw := Lib.hid hw
      clear hw HW t1 t2 t3 t0 a10' a92' a34'
      rcases hrel with ⟨rfl, hm, hg⟩ | ⟨rfl, hm, hg⟩ | ⟨rfl, hm, hg⟩ | ⟨rfl, hm⟩
      · subst hm
        by_cases h0 : k10 = 0
        · have g0 : (((k10 : Nat) : Int) != 0) = false := by simp [h0]
          go_wp2_with (first | (go_at_call 149; refine (HC10.out _).mono ?_; rintro e w' ⟨rfl, hw'⟩; cases hw'))
          go_roundg 3
          case measure => omega
          case rel => exact ⟨⟨nd, Hw.out⟩, 0, by first | rfl | simp, by first | rfl | (simp; done) | (simp; omega), .inr (.inl ⟨rfl, by omega, Nat.le_refl _⟩)⟩
        · have g0 : (((k10 : Nat) : Int) != 0) = true := by simp [h0]
          go_wp2_with (first | (go_at_call 149; refine (HC10.out _).mono ?_; rintro e w' ⟨rfl, hw'⟩; cases hw'))
          go_region
          all_goals
            go_wp2
            go_roundg 3
            case measure => omega
            case rel => exact ⟨⟨nd + 1, by rw [Hw.out]; rfl⟩, k10, by go_num, by first | rfl | (simp; done) | (simp; omega), .inr (.inl ⟨rfl, rfl, Nat.le_refl _⟩)⟩
      · subst hm
        by_cases h0 : k92 = 0
        · have g0 : (((k92 : Nat) : Int) != 0) = false := by simp [h0]
          go_wp2_with (first | (go_at_call 149; refine (HC92.out _).mono ?_; rintro e w' ⟨rfl, hw'⟩; cases hw'))
          go_roundg 2
          case measure => omega
          case rel => exact ⟨⟨nd, Hw.out⟩, m, by first | rfl | simp, by first | rfl | (simp; done) | (simp; omega), .inr (.inr (.inl ⟨rfl, by omega, Nat.le_refl _⟩))⟩
        · have g0 : (((k92 : Nat) : Int) != 0) = true := by simp [h0]
          go_wp2_with (first | (go_at_call 149; refine (HC92.out _).mono ?_; rintro e w' ⟨rfl, hw'⟩; cases hw'))
          go_region
          all_goals
            go_wp2
            go_roundg 2
            case measure => omega
            case rel => exact ⟨⟨nd + 1, by rw [Hw.out]; rfl⟩, m + k92, by go_num, by first | rfl | (simp; done) | (simp; omega), .inr (.inr (.inl ⟨rfl, rfl, Nat.le_refl _⟩))⟩
      · subst hm
        by_cases h0 : k34 = 0
        · have g0 : (((k34 : Nat) : Int) != 0) = false := by simp [h0]
          go_wp2_with (first | (go_at_call 149; refine (HC34.out _).mono ?_; rintro e w' ⟨rfl, hw'⟩; cases hw'))
          go_roundg 1
          case measure => omega
          case rel => exact ⟨⟨nd, Hw.out⟩, k10 + k92, by first | rfl | simp, by first | rfl | (simp; done) | (simp; omega), .inr (.inr (.inr ⟨rfl, by omega⟩))⟩
        · have g0 : (((k34 : Nat) : Int) != 0) = true := by simp [h0]
          go_wp2_with (first | (go_at_call 149; refine (HC34.out _).mono ?_; rintro e w' ⟨rfl, hw'⟩; cases hw'))
          go_region
          all_goals
            go_wp2
            go_roundg 1
            case measure => omega
            case rel => exact ⟨⟨nd + 1, by rw [Hw.out]; rfl⟩, k10 + k92 + k34, by go_num, by first | rfl | (simp; done) | (simp; omega), .inr (.inr (.inr ⟨rfl, rfl⟩))⟩
      · have hm' : m = cnt s.data.toList := by rw [HS.out]; exact hm
        clear hm
        have hmc : m ≤ s.size := by omega
        have Hm := Lib.hid hm'
        clear hm'
        have HT' := Lib.hid (fun c => (tab_cell' Hw.out HT.out c))
        by_cases h0 : m = 0
        · subst h0
          go_wp2
          go_ret
          refine ⟨?_, by rw [Hw.out]; exact below_drewN (Below.refl _ _) nd⟩
          rw [escL_same _ Hm.out.symm]
          rfl
        · have g0 : decide (0 < m) = true := by simpa using Nat.pos_of_ne_zero h0
          have hmk := make_bytes (s.size + m) (by omega)
          simp only [Int.natCast_add] at hmk
          have hW1 : ∃ W1, W1 = wr := ⟨_, rfl⟩
          obtain ⟨W1, hW1⟩ := hW1
          subst hW1
          go_wp2
          have Hs := Lib.hid (bufC_size [] (s.size + m) (Nat.zero_le _))
          go_loopg [13, 14] s.size (fun gg v13 v14 wx => ∃ i j : Nat, i ≤ s.size ∧ s.size - i ≤ gg ∧ v14 = .int .i64 i ∧ v13 = .int .i64 j ∧ Hid (j = (escL (s.data.toList.take i)).length) ∧ j ≤ s.size + m ∧ Hid (Below W1.heap.size W1 wx) ∧
            Hid (wx.heap[W1.heap.size]? = some (.cells (bufC (escL (s.data.toList.take i)) (s.size + m)) 5 (0, 0))))
          case atStart => exact ⟨0, 0, Nat.zero_le _, Nat.le_refl _, rfl, rfl, rfl, Nat.zero_le _, Lib.hid ((Below.refl _ _).alloc (Nat.le_refl _) _), Lib.hid (World.alloc_heap_new _ _)⟩
          case round =>
            obtain ⟨i, j, hi, hgg, rfl, rfl, Hj, hjn, HB, Hk⟩ := hrel
            by_cases hlt : i < s.size
            · have hltz : (i : Int) < (s.size : Int) := by omega
              have Htake := Lib.hid (escL_take s.data.toList i hlt)
              have hle := escL_take_le s.data.toList (i + 1)
              rw [HL.out, hsl, ← Hm.out] at hle
              have hx := HT'.out (s.data.toList[i]'hlt)
              have hgx : (s[i]'hlt) = s.data.toList[i]'hlt := rfl
              rw [Htake.out, List.length_append, ← Hj.out] at hle
              have Hgx := Lib.hid hgx
              generalize hX : s.data.toList[i]'hlt = x at hx Htake hle Hgx
              clear hX hgx
              have hgx := Hgx.out
              have hx256 : (x.toNat : Int) < 256 := by have := x.toNat_lt; omega
              unfold esc at Htake hle
              cases hsp : spec x with
              | none =>
                rw [hsp] at hx Htake hle
                simp only [List.length_cons, List.length_nil] at hx hle Htake
                have hxc : wr.cell? ⟨bb, x.toNat, none⟩ = some (.slice none 0 0) := (HB.out.cell (p := ⟨bb, x.toNat, none⟩) (K.lt_of_cell hx)).trans hx
                have hf0 : wr.frozen? ⟨W1.heap.size, j, none⟩ = false := Lib.frozen_of_heap Hk.out _
                obtain ⟨v0, hv0⟩ : ∃ v0, wr.cell? ⟨W1.heap.size, j, none⟩ = some v0 := by
                  rw [Lib.cell_of_heap Hk.out, Array.getElem?_eq_getElem (by rw [bufC_size _ _ (by rw [← Hj.out]; exact hjn)]; omega)]
                  exact ⟨_, rfl⟩
                clear hx
                go_wp2
                go_roundg (s.size - (i + 1))
                case measure => omega
                case rel =>
                  exact ⟨i + 1, j + 1, by omega, Nat.le_refl _, by go_num, by go_num, Lib.hid (by rw [Htake.out, List.length_append, ← Hj.out]; rfl), by omega, Lib.hid (HB.out.setCell (p := ⟨W1.heap.size, j, none⟩) (Nat.le_refl _) _),
                    Lib.hid (by rw [Htake.out]; exact put_heap Hk.out Hj.out (by rw [← Hj.out]; omega))⟩
              | some d =>
                rw [hsp] at hx Htake hle
                simp only [List.length_cons, List.length_nil] at hx hle Htake
                obtain ⟨g, cp, hx0, hx1, hx2⟩ := hx
                have y0 : wr.cell? ⟨bb, x.toNat, none⟩ = some (.slice (some ⟨g, 0, none⟩) 2 cp) := (HB.out.cell (p := ⟨bb, x.toNat, none⟩) (K.lt_of_cell hx0)).trans hx0
                have y1 : wr.cell? ⟨g, 0, none⟩ = some (.int .u8 92) := (HB.out.cell (p := ⟨g, 0, none⟩) (K.lt_of_cell hx1)).trans hx1
                have y2 : wr.cell? ⟨g, 1, none⟩ = some (.int .u8 (d.toNat : Int)) := (HB.out.cell (p := ⟨g, 1, none⟩) (K.lt_of_cell hx2)).trans hx2
                have hjlt : (j : Int) < (s.size : Int) + (m : Int) := by omega
                have hcp := copy_two' wr.drew W1.heap.size g j (s.size + m) (s.size + m - j) cp (s.size + m - j) d _ (by rw [← Hj.out]; omega) Hj.out rfl y1 y2 Hk.out
                clear hx0 hx1 hx2 y1 y2
                go_wp2
                go_region
                all_goals
                  go_wp2
                  go_roundg (s.size - (i + 1))
                  case measure => omega
                  case rel =>
                    have hb2 := (HB.out.setCell (p := ⟨W1.heap.size, j, none⟩) (Nat.le_refl _) (.int .u8 92)).setCell (p := ⟨W1.heap.size, j + 1, none⟩) (Nat.le_refl _) (.int .u8 (d.toNat : Int))
                    have hp1 := put_heap (c := 92) Hk.out Hj.out (by rw [← Hj.out]; omega)
                    have hp2 := put_heap (j := j + 1) (c := d) hp1 (by rw [List.length_append, ← Hj.out]; rfl) (by rw [List.length_append, ← Hj.out]; simp only [List.length_cons, List.length_nil]; omega)
                    rw [List.append_assoc] at hp2
                    exact ⟨i + 1, j + 2, by omega, Nat.le_refl _, by go_num, by go_num, Lib.hid (by rw [Htake.out, List.length_append, ← Hj.out]; rfl), by omega, Lib.hid ⟨hb2.os, hb2.tape, hb2.output, hb2.size, hb2.block⟩,
                      Lib.hid (by rw [Htake.out]; exact hp2)⟩
            · have hltz : ¬ (i : Int) < (s.size : Int) := by omega
              obtain rfl : i = s.size := by omega
              have htk : s.data.toList.take s.size = s.data.toList := List.take_of_length_le (Nat.le_refl _)
              rw [htk] at Hj Hk
              have hbl : (escL s.data.toList).length = s.size + m := by rw [HL.out, hsl, ← Hm.out]
              have hcv := run_convert_bytes_back (P := Tryz.prog) wr 115 9 5 ⟨W1.heap.size, 0, none⟩ (s.size + m) (escL s.data.toList) Tryz.underlying115 Tryz.underlying5 Tryz.underlying9 (by
                intro q hq
                rw [addr_add, Lib.cell_of_heap Hk.out, bufC_full _ _ hbl, List.getElem?_toArray]
                unfold Lib.byteCells
                rw [List.getElem?_map, List.getElem?_eq_getElem hq]
                rfl)
              rw [hbl] at hcv
              have HW2 := Lib.hid Hw.out
              clear hbl htk Hj
              go_wp2
              go_ret
              refine ⟨rfl, ?_⟩
              have z1 : W1.heap.size = w.heap.size := by rw [Hw.out]; rfl
              have hb0 : Below w.heap.size w W1 := by rw [Hw.out]; exact below_drewN (Below.refl _ _) nd
              exact hb0.trans (HB.out.mono (by omega))
  · have g24 : ¬ (24 : Int) ≤ (s.size : Int) := by omega
    go_enter Tryz.func147, Tryz.ntmps147
    go_wp2
    go_loopg [5, 6, 10] s.size (fun gg v5 v6 v10 wr => Hid (∃ nd, wr = w.drewN nd) ∧ ∃ i m : Nat, i ≤ s.size ∧ s.size - i ≤ gg ∧ v10 = .int .i64 i ∧ m ≤ i ∧ v5 = .int .i64 ((s.size + m : Nat) : Int) ∧ v6 = .bool (decide (0 < m)) ∧ Hid (m = cnt (s.data.toList.take i)))
    case atStart => exact ⟨⟨0, rfl⟩, 0, 0, Nat.zero_le _, Nat.le_refl _, rfl, Nat.le_refl _, by simp, rfl, rfl⟩
    case round =>
      obtain ⟨HW, i, m, hi, hgg, rfl, hmi, rfl, rfl, HM⟩ := hrel
      have hw := HW.out
      obtain ⟨nd, hw⟩ := hw
      have Hw := Lib.hid hw
      have q0 : wr.cell? ⟨bb, 256, none⟩ = _ := (congrArg (fun x => World.cell? x ⟨bb, 256, none⟩) hw).trans t0
      clear hw HW t1 t2 t3 t0
      by_cases hlt : i < s.size
      · have hltz : (i : Int) < (s.size : Int) := by omega
        have Htake := Lib.hid (cnt_take s.data.toList i hlt)
        have hx := tab_cell' Hw.out HT.out (s.data.toList[i]'hlt)
        have hgx : (s[i]'hlt) = s.data.toList[i]'hlt := rfl
        generalize s.data.toList[i]'hlt = x at hx Htake hgx
        have hx256 : (x.toNat : Int) < 256 := by have := x.toNat_lt; omega
        cases hsp : spec x with
        | none =>
          rw [hsp] at hx Htake
          simp only at hx
          clear hsp
          go_wp2
          go_roundg (s.size - (i + 1))
          case measure => omega
          case rel => exact ⟨⟨nd, Hw.out⟩, i + 1, m, by omega, Nat.le_refl _, by go_num, by omega, rfl, rfl, Lib.hid (by rw [Htake.out, HM.out]; rfl)⟩
        | some d =>
          rw [hsp] at hx Htake
          simp only at hx
          obtain ⟨g, cp, hx0, hx1, hx2⟩ := hx
          clear hsp hx1 hx2
          go_wp2
          (try go_region)
          all_goals
            (try go_wp2)
            go_roundg (s.size - (i + 1))
            case measure => omega
            case rel => exact ⟨by first | exact ⟨nd, Hw.out⟩ | exact ⟨nd + 1, by rw [Hw.out]; rfl⟩, i + 1, m + 1, by omega, Nat.le_refl _, by go_num, by omega, by go_num, by simp, Lib.hid (by rw [Htake.out, HM.out]; rfl)⟩
      · have hltz : ¬ (i : Int) < (s.size : Int) := by omega
        obtain rfl : i = s.size := by omega
        have htk : s.data.toList.take s.size = s.data.toList := List.take_of_length_le (Nat.le_refl _)
        rw [htk] at HM
        have hm' := HM.out
        clear HM htk hi hgg hmi hltz
        have hmc : m ≤ s.size := by omega
        have Hm := Lib.hid hm'
        clear hm'
        have HT' := Lib.hid (fun c => (tab_cell' Hw.out HT.out c))
        by_cases h0 : m = 0
        · subst h0
          go_wp2
          go_ret
          refine ⟨?_, by rw [Hw.out]; exact below_drewN (Below.refl _ _) nd⟩
          rw [escL_same _ Hm.out.symm]
          rfl
        · have g0 : decide (0 < m) = true := by simpa using Nat.pos_of_ne_zero h0
          have hmk := make_bytes (s.size + m) (by omega)
          simp only [Int.natCast_add] at hmk
          have hW1 : ∃ W1, W1 = wr := ⟨_, rfl⟩
          obtain ⟨W1, hW1⟩ := hW1
          subst hW1
          go_wp2
          have Hs := Lib.hid (bufC_size [] (s.size + m) (Nat.zero_le _))
          go_loopg [13, 14] s.size (fun gg v13 v14 wx => ∃ i j : Nat, i ≤ s.size ∧ s.size - i ≤ gg ∧ v14 = .int .i64 i ∧ v13 = .int .i64 j ∧ Hid (j = (escL (s.data.toList.take i)).length) ∧ j ≤ s.size + m ∧ Hid (Below W1.heap.size W1 wx) ∧
            Hid (wx.heap[W1.heap.size]? = some (.cells (bufC (escL (s.data.toList.take i)) (s.size + m)) 5 (0, 0))))
          case atStart => exact ⟨0, 0, Nat.zero_le _, Nat.le_refl _, rfl, rfl, rfl, Nat.zero_le _, Lib.hid ((Below.refl _ _).alloc (Nat.le_refl _) _), Lib.hid (World.alloc_heap_new _ _)⟩
          case round =>
            obtain ⟨i, j, hi, hgg, rfl, rfl, Hj, hjn, HB, Hk⟩ := hrel
            by_cases hlt : i < s.size
            · have hltz : (i : Int) < (s.size : Int) := by omega
              have Htake := Lib.hid (escL_take s.data.toList i hlt)
              have hle := escL_take_le s.data.toList (i + 1)
              rw [HL.out, hsl, ← Hm.out] at hle
              have hx := HT'.out (s.data.toList[i]'hlt)
              have hgx : (s[i]'hlt) = s.data.toList[i]'hlt := rfl
              rw [Htake.out, List.length_append, ← Hj.out] at hle
              have Hgx := Lib.hid hgx
              generalize hX : s.data.toList[i]'hlt = x at hx Htake hle Hgx
              clear hX hgx
              have hgx := Hgx.out
              have hx256 : (x.toNat : Int) < 256 := by have := x.toNat_lt; omega
              unfold esc at Htake hle
              cases hsp : spec x with
              | none =>
                rw [hsp] at hx Htake hle
                simp only [List.length_cons, List.length_nil] at hx hle Htake
                have hxc : wr.cell? ⟨bb, x.toNat, none⟩ = some (.slice none 0 0) := (HB.out.cell (p := ⟨bb, x.toNat, none⟩) (K.lt_of_cell hx)).trans hx
                have hf0 : wr.frozen? ⟨W1.heap.size, j, none⟩ = false := Lib.frozen_of_heap Hk.out _
                obtain ⟨v0, hv0⟩ : ∃ v0, wr.cell? ⟨W1.heap.size, j, none⟩ = some v0 := by
                  rw [Lib.cell_of_heap Hk.out, Array.getElem?_eq_getElem (by rw [bufC_size _ _ (by rw [← Hj.out]; exact hjn)]; omega)]
                  exact ⟨_, rfl⟩
                clear hx
                go_wp2
                go_roundg (s.size - (i + 1))
                case measure => omega
                case rel =>
                  exact ⟨i + 1, j + 1, by omega, Nat.le_refl _, by go_num, by go_num, Lib.hid (by rw [Htake.out, List.length_append, ← Hj.out]; rfl), by omega, Lib.hid (HB.out.setCell (p := ⟨W1.heap.size, j, none⟩) (Nat.le_refl _) _),
                    Lib.hid (by rw [Htake.out]; exact put_heap Hk.out Hj.out (by rw [← Hj.out]; omega))⟩
              | some d =>
                rw [hsp] at hx Htake hle
                simp only [List.length_cons, List.length_nil] at hx hle Htake
                obtain ⟨g, cp, hx0, hx1, hx2⟩ := hx
                have y0 : wr.cell? ⟨bb, x.toNat, none⟩ = some (.slice (some ⟨g, 0, none⟩) 2 cp) := (HB.out.cell (p := ⟨bb, x.toNat, none⟩) (K.lt_of_cell hx0)).trans hx0
                have y1 : wr.cell? ⟨g, 0, none⟩ = some (.int .u8 92) := (HB.out.cell (p := ⟨g, 0, none⟩) (K.lt_of_cell hx1)).trans hx1
                have y2 : wr.cell? ⟨g, 1, none⟩ = some (.int .u8 (d.toNat : Int)) := (HB.out.cell (p := ⟨g, 1, none⟩) (K.lt_of_cell hx2)).trans hx2
                have hjlt : (j : Int) < (s.size : Int) + (m : Int) := by omega
                have hcp := copy_two' wr.drew W1.heap.size g j (s.size + m) (s.size + m - j) cp (s.size + m - j) d _ (by rw [← Hj.out]; omega) Hj.out rfl y1 y2 Hk.out
                clear hx0 hx1 hx2 y1 y2
                go_wp2
                go_region
                all_goals
                  go_wp2
                  go_roundg (s.size - (i + 1))
                  case measure => omega
                  case rel =>
                    have hb2 := (HB.out.setCell (p := ⟨W1.heap.size, j, none⟩) (Nat.le_refl _) (.int .u8 92)).setCell (p := ⟨W1.heap.size, j + 1, none⟩) (Nat.le_refl _) (.int .u8 (d.toNat : Int))
                    have hp1 := put_heap (c := 92) Hk.out Hj.out (by rw [← Hj.out]; omega)
                    have hp2 := put_heap (j := j + 1) (c := d) hp1 (by rw [List.length_append, ← Hj.out]; rfl) (by rw [List.length_append, ← Hj.out]; simp only [List.length_cons, List.length_nil]; omega)
                    rw [List.append_assoc] at hp2
                    exact ⟨i + 1, j + 2, by omega, Nat.le_refl _, by go_num, by go_num, Lib.hid (by rw [Htake.out, List.length_append, ← Hj.out]; rfl), by omega, Lib.hid ⟨hb2.os, hb2.tape, hb2.output, hb2.size, hb2.block⟩,
                      Lib.hid (by rw [Htake.out]; exact hp2)⟩
            · have hltz : ¬ (i : Int) < (s.size : Int) := by omega
              obtain rfl : i = s.size := by omega
              have htk : s.data.toList.take s.size = s.data.toList := List.take_of_length_le (Nat.le_refl _)
              rw [htk] at Hj Hk
              have hbl : (escL s.data.toList).length = s.size + m := by rw [HL.out, hsl, ← Hm.out]
              have hcv := run_convert_bytes_back (P := Tryz.prog) wr 115 9 5 ⟨W1.heap.size, 0, none⟩ (s.size + m) (escL s.data.toList) Tryz.underlying115 Tryz.underlying5 Tryz.underlying9 (by
                intro q hq
                rw [addr_add, Lib.cell_of_heap Hk.out, bufC_full _ _ hbl, List.getElem?_toArray]
                unfold Lib.byteCells
                rw [List.getElem?_map, List.getElem?_eq_getElem hq]
                rfl)
              rw [hbl] at hcv
              have HW2 := Lib.hid Hw.out
              clear hbl htk Hj
              go_wp2
              go_ret
              refine ⟨rfl, ?_⟩
              have z1 : W1.heap.size = w.heap.size := by rw [Hw.out]; rfl
              have hb0 : Below w.heap.size w W1 := by rw [Hw.out]; exact below_drewN (Below.refl _ _) nd
              exact hb0.trans (HB.out.mono (by omega))
end Go.Proofs.YtmkfeanggmjhmaaGreat.Rp
namespace Go.Proofs.YtmkfeanggmjhmaaGreat.Rp
open Go Go.RowKit
set_option linter.unusedSimpArgs false
set_option linter.unusedVariables false

theorem tab_other {B bb k i : Nat} {done : List (Nat × Nat)} {w : World} {cs : Array Value} (T : Tab B bb done w) (hb : w.heap[k]? = some (.cells cs 111 (0, 0))) (v : Value) : Tab B bb done (w.setCell ⟨k, i, none⟩ v) := by
  obtain ⟨PA, u, h1, h2, h3, h4⟩ := T
  have e : ∀ j, j ≠ k → (w.setCell ⟨k, i, none⟩ v).heap[j]? = w.heap[j]? := fun j hj => heap_setCell_other w ⟨k, i, none⟩ j v hj
  refine ⟨PA, u, ?_, h2, own_keep h3 (fun j cur hj => e j (fun h => by subst h; rw [hb] at hj; cases hj)), fun c hc => ?_⟩
  · rw [e bb (fun h => by subst h; rw [hb] at h1; cases h1)]; exact h1
  · rcases h4 c hc with ⟨d, hm, g, cap, cur, fr, k1, k2, k3, k4⟩ | h
    · exact .inl ⟨d, hm, g, cap, cur, fr, k1, k2, by rw [e g (fun h => by subst h; rw [hb] at k3; cases k3)]; exact k3, k4⟩
    · exact .inr h
theorem tab_heap {B bb : Nat} {done : List (Nat × Nat)} {w w' : World} (T : Tab B bb done w) (h : w'.heap = w.heap) : Tab B bb done w' := by
  obtain ⟨PA, u, h1, h2, h3, h4⟩ := T
  refine ⟨PA, u, by rw [h]; exact h1, h2, own_keep h3 (fun j cur hj => by rw [h]), fun c hc => ?_⟩
  rcases h4 c hc with ⟨d, hm, g, cap, cur, fr, k1, k2, k3, k4⟩ | h'
  · exact .inl ⟨d, hm, g, cap, cur, fr, k1, k2, by rw [h]; exact k3, k4⟩
  · exact .inr h'
def six : List Value := [.string ⟨#[34]⟩, .string ⟨#[92, 34]⟩, .string ⟨#[92]⟩, .string ⟨#[92, 92]⟩, .string ⟨#[10]⟩, .string ⟨#[92, 110]⟩]
def repC (s : Value) : Array Value := #[.int .u32 0, .int .i32 0, .int .u32 0, .nilIface, s]

set_option maxRecDepth 100000 in
set_option maxHeartbeats 1000000 in
theorem New_calls (a : Nat) (w : World) (ha : w.heap[a]? = some (.cells six.toArray 9 (0, 0))) :
    Calls Tryz.prog 49 #[.slice (some ⟨a, 0, none⟩) 6 6] w fun e w' => ∃ b o c, e = .returned (.pointer (some ⟨b, 0, none⟩)) ∧ w'.heap[b]? = some (.cells (repC (.slice (some ⟨o, 0, none⟩) 6 c)) 111 (0, 0)) ∧ w.heap.size ≤ b ∧ o ≠ b ∧
      (∀ j, j < 6 → w'.cell? ⟨o, j, none⟩ = six[j]?) ∧ Below w.heap.size w w' := by
  obtain ⟨i0, hi, hz0, hz1, hz2⟩ := info_parts infoString
  have hc : ∀ j u, six[j]? = some u → w.cell? ((⟨a, 0, none⟩ : Addr).add j) = some u := fun j u hj => by rw [addr_add, Lib.cell_of_heap ha, List.getElem?_toArray]; exact hj
  have Hc := Lib.hid hc
  clear hc ha
  go_enter Tryz.func49, Tryz.ntmps49
  go_wp2_with (at_builtin; refine wpList_append_own _ rfl _ _ 22 rfl w.heap.size 9 i0 _ 1 16 Tryz.underlying22 hi hz0 hz1 hz2 rfl (by decide) _ _ _ rfl (World.ownsRow_nil _ _ _ _) ⟨a, 0, none⟩ 6 6 six rfl rfl Hc.out ?c2 ?c3 ?c4 ?c5 ?_)
  case c2 => intro u hu; simp [six] at hu; rcases hu with rfl | rfl | rfl | rfl | rfl | rfl <;> rfl
  case c3 => decide
  case c4 => decide
  case c5 => exact Nat.le_refl _
  intro v' w1 hown hgrow _
  obtain ⟨hlen, hown⟩ := hown
  rcases hown with ⟨_, h0⟩ | ⟨g, cap, cur, rfl, hg, hh, hcc, hm, hs, ht⟩
  · cases h0
  · have Hh := Lib.hid hh
    have Ht := Lib.hid ht
    clear hh ht hs hlen
    go_wp2
    go_ret
    have hb1 : Below w.heap.size w w1 := (Below.refl _ w).grown hgrow (Nat.le_refl _) (fun k hk => by simp [Value.ownBlock] at hk)
    refine ⟨w1.heap.size, g, cap, rfl, World.alloc_heap_new _ _, hb1.size, Nat.ne_of_lt (lt_heap Hh.out), fun j hj => ?_, hb1.alloc (by have := hb1.size; omega) _⟩
    have hg1 : g < w1.heap.size := lt_heap Hh.out
    rw [World.cell?_alloc_past _ _ _ hg1, Lib.cell_of_heap Hh.out, ← Array.getElem?_toList]
    have e : cur.toList.take 6 = six := Ht.out
    have hi : cur.toList[j]? = (cur.toList.take 6)[j]? := by rw [List.getElem?_take, if_pos hj]
    rw [hi, e]

/-- the replacer's block, behind the first part of Once -/
structure Built (b : Nat) (w W : World) : Prop where
  cells : ∃ sem, W.heap[b]? = some (.cells #[.int .u32 0, .int .i32 1, sem, .iface 141 (.pointer (some ⟨w.heap.size + 1, 0, none⟩)), .slice none 0 0] 111 (0, 0))
  tab : Tab w.heap.size (w.heap.size + 1) full W
  keep : ∀ k, k < w.heap.size → k ≠ b → W.heap[k]? = w.heap[k]?
  os : W.os = w.os
  tape : W.tape = w.tape
  output : W.output = w.output
  size : w.heap.size ≤ W.heap.size
theorem Built.cell {b : Nat} {w W : World} (h : Built b w W) : W.cell? ⟨b, 0, none⟩ = some (.int .u32 0) ∧ W.cell? ⟨b, 1, none⟩ = some (.int .i32 1) ∧ W.frozen? ⟨b, 0, none⟩ = false ∧ W.frozen? ⟨b, 1, none⟩ = false := by
  obtain ⟨sem, hc⟩ := h.cells
  exact ⟨by rw [Lib.cell_of_heap hc]; rfl, by rw [Lib.cell_of_heap hc]; rfl, Lib.frozen_of_heap hc _, Lib.frozen_of_heap hc _⟩

set_option maxRecDepth 100000 in
set_option maxHeartbeats 1000000 in
theorem buildOnce_calls (b o c : Nat) (w : World) (hb : w.heap[b]? = some (.cells #[.int .u32 0, .int .i32 1, .int .u32 0, .nilIface, .slice (some ⟨o, 0, none⟩) 6 c] 111 (0, 0))) (hs : ∀ j, j < 6 → w.cell? ⟨o, j, none⟩ = six[j]?) :
    Calls Tryz.prog 74 #[.pointer (some ⟨b, 0, none⟩)] w fun e w' => e = .returned (.tuple #[]) ∧ Built b w w' := by
  have hbl := lt_heap hb
  have HB := Lib.hid (build_calls b o c w (by rw [Lib.cell_of_heap hb]; rfl) (hs 0 (by decide)) (hs 1 (by decide)) (hs 2 (by decide)) (hs 3 (by decide)) (hs 4 (by decide)) (hs 5 (by decide)))
  clear hs
  have Hb := Lib.hid hb
  clear hb
  go_enter Tryz.func74, Tryz.ntmps74
  go_wp2_with fail
  refine HB.out.mono ?_
  rintro e w1 ⟨rfl, hb1, hT⟩
  have hc1 := (hb1.block b hbl).trans Hb.out
  have c3 : w1.cell? ⟨b, 3, none⟩ = some .nilIface := by rw [Lib.cell_of_heap hc1]; rfl
  have c4 : w1.cell? ⟨b, 4, none⟩ = some (.slice (some ⟨o, 0, none⟩) 6 c) := by rw [Lib.cell_of_heap hc1]; rfl
  have f3 : w1.frozen? ⟨b, 3, none⟩ = false := Lib.frozen_of_heap hc1 _
  have f4 : w1.frozen? ⟨b, 4, none⟩ = false := Lib.frozen_of_heap hc1 _
  have Hc1 := Lib.hid hc1
  have HT := Lib.hid hT
  clear hc1 hT
  go_wp2
  go_end0
  have d1 := heap_setCell_same w1 b 3 _ 111 (.iface 141 (.pointer (some ⟨w.heap.size + 1, 0, none⟩))) Hc1.out
  have d2 := heap_setCell_same _ b 4 _ 111 (.slice none 0 0) d1
  refine ⟨rfl, ⟨_, d2⟩, tab_other (tab_other HT.out Hc1.out _) d1 _, fun k hk hkb => ?_, hb1.os, hb1.tape, hb1.output, by simpa using hb1.size⟩
  rw [heap_setCell_other _ ⟨b, 4, none⟩ k _ hkb, heap_setCell_other _ ⟨b, 3, none⟩ k _ hkb]
  exact hb1.block k hk

theorem Built.once {b : Nat} {w W : World} (h : Built b w W) : (onceEnd b W).cell? ⟨b, 3, none⟩ = some (.iface 141 (.pointer (some ⟨w.heap.size + 1, 0, none⟩))) ∧ Tab w.heap.size (w.heap.size + 1) full (onceEnd b W) ∧ (∀ k, k < w.heap.size → k ≠ b → (onceEnd b W).heap[k]? = w.heap[k]?) ∧
    (onceEnd b W).os = w.os ∧ (onceEnd b W).tape = w.tape ∧ (onceEnd b W).output = w.output ∧ w.heap.size ≤ (onceEnd b W).heap.size := by
  obtain ⟨sem, hc⟩ := h.cells
  have hd : W.drew.heap[b]? = _ := hc
  have d1 := heap_setCell_same W.drew b 0 _ 111 (.int .u32 1) hd
  have d2 := heap_setCell_same _ b 1 _ 111 (.int .i32 0) d1
  refine ⟨by unfold onceEnd; rw [Lib.cell_of_heap d2]; rfl, ?_, fun k hk hkb => ?_, h.os, h.tape, h.output, ?_⟩
  · exact tab_other (tab_other (tab_heap h.tab rfl) hd _) d1 _
  · unfold onceEnd
    rw [heap_setCell_other _ ⟨b, 1, none⟩ k _ hkb, heap_setCell_other _ ⟨b, 0, none⟩ k _ hkb]
    exact h.keep k hk hkb
  · unfold onceEnd
    rw [World.size_setCell, World.size_setCell]
    exact h.size
theorem method_replace (v : Value) (w : World) : (method 307 141 v "Replace").run Tryz.prog w = .ok (147, v) w := by kernel_rfl
set_option maxRecDepth 100000 in
set_option maxHeartbeats 1000000 in
theorem Replacer_Replace_calls (b o c : Nat) (w : World) (hb : w.heap[b]? = some (.cells (repC (.slice (some ⟨o, 0, none⟩) 6 c)) 111 (0, 0))) (hs : ∀ j, j < 6 → w.cell? ⟨o, j, none⟩ = six[j]?) (hob : o ≠ b) (s : ByteArray) (hss : s.size ≤ 1000000) (B : Nat) (hB : B ≤ b) (hBw : B ≤ w.heap.size) :
    Calls Tryz.prog 50 #[.pointer (some ⟨b, 0, none⟩), .string s] w fun r w' => r = .returned (.string ⟨(escL s.data.toList).toArray⟩) ∧ Below B w w' := by
  have hmf : ∀ (fn : Fn) (first cap : Array Value) (w : World), (Instr.makeFunc fn first cap).run Tryz.prog w = .ok (.func fn first cap) w := fun _ _ _ _ => rfl
  have hbl := lt_heap hb
  have e1 := heap_setCell_same w b 1 _ 111 (.int .i32 1) hb
  have hz : (w.setCell ⟨b, 1, none⟩ (.int .i32 1)).heap.size = w.heap.size := by simp
  have HO := Lib.hid (buildOnce_calls b o c (w.setCell ⟨b, 1, none⟩ (.int .i32 1)) e1 (fun j hj => by
    rw [World.cell?_setCell_other _ _ _ _ (by intro h; exact hob (congrArg Addr.block h).symm)]; exact hs j hj))
  have HD := Lib.hid (do_calls b w (by rw [Lib.cell_of_heap hb]; rfl) (by rw [Lib.cell_of_heap hb]; rfl) (Lib.frozen_of_heap hb _) (Lib.frozen_of_heap hb _) (Built b (w.setCell ⟨b, 1, none⟩ (.int .i32 1))) (fun W h => h.cell) HO.out)
  clear HO e1 hs
  have Hb := Lib.hid hb
  clear hb
  go_enter Tryz.func50, Tryz.ntmps50
  go_wp2_with fail
  refine HD.out.mono ?_
  rintro e w1 ⟨rfl, W, hW, rfl⟩
  obtain ⟨k1, k2, k3, k4, k5, k6, k7⟩ := hW.once
  rw [hz] at k1 k2
  have HR := Lib.hid (Replace_calls _ _ _ k2 s hss)
  have hbw : Below B w (onceEnd b W) := ⟨k4, k5, k6, by rw [hz] at k7; exact k7, fun k hk => by rw [k3 k (by rw [hz]; omega) (by omega)]; exact heap_setCell_other w ⟨b, 1, none⟩ k _ (by show k ≠ b; omega)⟩
  have Hbw := Lib.hid hbw
  clear hW k2 k3 k4 k5 k6 hbw
  rw [hz] at k7
  generalize onceEnd b W = W2 at k1 k7 HR Hbw
  have hmt := method_replace
  go_wp2_with (go_at_call 147; refine HR.out.mono ?_; rintro e w3 ⟨rfl, hb3⟩)
  go_ret
  exact ⟨rfl, Hbw.out.trans (hb3.mono (by omega))⟩

def opened : List UInt8 := [92, 60, 111, 112, 101, 110, 62]
def closed : List UInt8 := [92, 60, 99, 108, 111, 115, 101, 62]
/-- how a token of a kind is written -/
def spell (k : Int) (t : ByteArray) : ByteArray :=
  if k = 9 then ⟨(opened ++ t.data.toList ++ closed).toArray⟩ else if k = 8 then ⟨(34 :: escL t.data.toList ++ [34]).toArray⟩ else t
theorem cat_list (a b : List UInt8) : (⟨a.toArray⟩ : ByteArray) ++ ⟨b.toArray⟩ = ⟨(a ++ b).toArray⟩ := by
  apply ByteArray.ext
  apply Array.ext'
  simp

set_option maxRecDepth 100000 in
set_option maxHeartbeats 2000000 in
theorem spelled_calls (k : Int) (t : ByteArray) (p : Int) (w : World) (ht : t.size ≤ 1000000) :
    Calls Tryz.prog 37 #[.agg #[.int .i64 k, .string t, .int .i64 p]] w fun r w' => r = .returned (.string (spell k t)) ∧ Below w.heap.size w w' := by
  by_cases h9 : k = 9
  · subst h9
    have hsp : spell 9 t = ⟨#[92, 60, 111, 112, 101, 110, 62]⟩ ++ t ++ ⟨#[92, 60, 99, 108, 111, 115, 101, 62]⟩ := by
      unfold spell
      rw [if_pos rfl]
      have e : t = ⟨t.data.toList.toArray⟩ := rfl
      rw [e]
      exact (by rw [show (⟨#[92, 60, 111, 112, 101, 110, 62]⟩ : ByteArray) = ⟨opened.toArray⟩ from rfl, show (⟨#[92, 60, 99, 108, 111, 115, 101, 62]⟩ : ByteArray) = ⟨closed.toArray⟩ from rfl, cat_list, cat_list])
    rw [hsp]
    clear hsp
    go_enter Tryz.func37, Tryz.ntmps37
    go_wp2
    go_ret
    exact ⟨rfl, (Below.refl _ w).alloc (Nat.le_refl _) _⟩
  · have g9 : (k == 9) = false := by simpa using h9
    by_cases h8 : k = 8
    · subst h8
      have hsp : spell 8 t = ⟨#[34]⟩ ++ ⟨(escL t.data.toList).toArray⟩ ++ ⟨#[34]⟩ := by
        unfold spell
        rw [if_neg (by decide), if_pos rfl]
        rw [show (⟨#[34]⟩ : ByteArray) = ⟨[(34 : UInt8)].toArray⟩ from rfl, cat_list, cat_list]
        rfl
      rw [hsp]
      clear hsp
      have HN := Lib.hid (fun (W : World) (h : W.heap[w.heap.size + 1]? = some (.cells six.toArray 9 (0, 0))) => New_calls (w.heap.size + 1) W h)
      go_enter Tryz.func37, Tryz.ntmps37
      go_wp2
      have hel : (⟨(escL t.data.toList).toArray⟩ : ByteArray).size ≤ 2000000 := by
        have h1 := escL_len t.data.toList
        have h2 := cnt_le t.data.toList
        have h3 : t.data.toList.length = t.size := rfl
        simp only [ByteArray.size, List.size_toArray]
        omega
      generalize hG : (⟨(escL t.data.toList).toArray⟩ : ByteArray) = G at hel
      have HG := Lib.hid hG
      clear hG
      go_region_with (first
        | (go_at_call 49; refine (HN.out _ ?_).mono ?_; (exact heap_alloc2_new _ _ _); rintro e w1 ⟨b, o, c, rfl, hb, hbb, hob, hs, hbel⟩; have hld := (hbel.cell (p := ⟨w.heap.size, 1, none⟩) (by simp; omega)).trans (Lib.cell_of_heap (heap_alloc2_old w _ _) 1); have HH := Lib.hid (And.intro hb (And.intro hbb (And.intro hob (And.intro hs hbel)))); clear hb hbb hob hs hbel)
        | (go_at_call 50; refine (Replacer_Replace_calls _ _ _ _ HH.out.1 HH.out.2.2.2.1 HH.out.2.2.1 t ht w.heap.size (by have := HH.out.2.1; simp at this; omega) (by have := HH.out.2.2.2.2.size; simp at this; omega)).mono ?_; rintro e w2 ⟨rfl, hb2⟩; rw [HG.out]))
      all_goals
        go_wp2
        go_ret
        have hz := HH.out.2.2.2.2
        have h0 : Below w.heap.size w ((w.alloc (.cells #[.int .i64 8, .string t, .int .i64 p] 30)).alloc (.cells six.toArray 9)) := ((Below.refl _ w).alloc (Nat.le_refl _) _).alloc (by simp) _
        have h0' : Below w.heap.size w ((w.alloc (.cells #[.int .i64 8, .string t, .int .i64 p] 30)).alloc (.cells six.toArray 9)).drew := ⟨h0.os, h0.tape, h0.output, h0.size, h0.block⟩
        exact ⟨by rw [HG.out]; rfl, (h0'.trans (hz.mono (by simp; omega))).trans hb2⟩
    · have g8 : (k == 8) = false := by simpa using h8
      have hsp : spell k t = t := by unfold spell; rw [if_neg h9, if_neg h8]
      rw [hsp]
      clear hsp
      go_enter Tryz.func37, Tryz.ntmps37
      go_wp2
      go_ret
      exact ⟨rfl, (Below.refl _ w).alloc (Nat.le_refl _) _⟩
end Go.Proofs.YtmkfeanggmjhmaaGreat.Rp
