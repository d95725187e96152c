/- TokenWrites holds of every input: whatever the keywords and the tokens, the law returns true and both read as they did. -/
import Derived.Test.YtmkfeanggmjhmaaGreatTokenWritesV5
import Derived.Test.YtmkfeanggmjhmaaGreatWMore
import Derived.Deep.Slices
import Derived.ChangeArms
import Derived.DataReads
/- Arguments opened: what a datum's cells hold, by the printed kinds.  It names no program. -/
namespace Go.Proofs.YtmkfeanggmjhmaaGreat.Opn
set_option linter.unusedSimpArgs false
set_option linter.unusedVariables false
open Go Go.RowKit Go.ChangeShapes Go.WideShapes Go.Proofs.YtmkfeanggmjhmaaGreatW.PrintWords

/-- what reads as a datum of a type, with so much fuel, is of a kind -/
def Opn {α : Type} (P : Program) (k : Nat) (t : TypeId) (d : Kd α) (ok : α → Prop) : Prop :=
  P.cellsOf t = d.sz ∧ ∀ (H : Type) (enc : TypeId × Value → H) (w : World) (held : Bool) (fuel : Nat) (cs : List Value) (x : DataW H × List MemPlace), fuel ≤ k → DataW.trod enc P w 0 (fun _ => true) held fuel t cs = some x → ∃ a, d.K w a cs ∧ ok a
variable {α β : Type} {P : Program} {k : Nat} {t e : TypeId} {d : Kd α} {b : Kd β} {ok : α → Prop} {okb : β → Prop}

theorem Opn.zero (hc : P.cellsOf t = d.sz) : Opn P 0 t d ok := ⟨hc, fun H enc w held fuel cs x h hx => by
  obtain rfl : fuel = 0 := by omega
  simp [DataW.trod] at hx⟩
theorem Opn.le {k' : Nat} (h : Opn P k t d ok) (hk : k' ≤ k) : Opn P k' t d ok := ⟨h.1, fun H enc w held fuel cs x hf hx => h.2 H enc w held fuel cs x (by omega) hx⟩
theorem opn_int {q : IntKind} (ht : P.underlying t = some (.int q)) (hc : P.cellsOf t = 1) : Opn P k t (Kd.int q) (fun n => (Lit.int q n).wf = true) := ⟨hc, fun H enc w held fuel cs x hf hx => by
  obtain ⟨n, rfl, _, h⟩ := DataW.trod_int ht hx
  exact ⟨n, rfl, h⟩⟩
theorem opn_string (ht : P.underlying t = some .string) (hc : P.cellsOf t = 1) : Opn P k t Kd.string (fun s => s.size ≤ maxLen) := ⟨hc, fun H enc w held fuel cs x hf hx => by
  obtain ⟨n, rfl, _, h⟩ := DataW.trod_string ht hx
  exact ⟨n, rfl, h⟩⟩
theorem opn_iso {f : β → α} (g : α → β) (hg : ∀ a, f (g a) = a) (h : Opn P k t d ok) : Opn P k t (Kd.iso d f) (fun y => ok (f y)) := ⟨h.1, fun H enc w held fuel cs x hf hx => by
  obtain ⟨a, ha, hok⟩ := h.2 H enc w held fuel cs x hf hx
  refine ⟨g a, ?_, by show ok (f (g a)); rw [hg]; exact hok⟩
  show d.K w (f (g a)) cs
  rw [hg]
  exact ha⟩
theorem opn_slice (E : Nat) (ht : P.underlying t = some (.slice e)) (hc : P.cellsOf t = 1) (h : Opn P k e d ok) : Opn P (k + 1) t (Kd.slice E d) (fun xs => (∀ a ∈ xs, ok a) ∧ xs.length ≤ maxLen) := ⟨hc, fun H enc w held fuel cs x hf hx => by
  rcases DataW.trod_slice ht hx with ⟨rfl, _⟩ | ⟨a, len, cap, elems, rest, n, hn, rfl, rfl, hb, hl, hm, hlen, hel, hsp, hns⟩
  · exact ⟨[], ⟨none, 0, rfl, Nat.le_refl _, rfl, Nat.zero_le _, fun h => absurd h (Nat.lt_irrefl _)⟩, by simp, Nat.zero_le _⟩
  · have each : ∀ i, i < len → ∃ p : α × List Value, (P.cellsOf e = p.2.length ∧ d.K w p.1 p.2 ∧ ok p.1 ∧ ∀ j u, p.2[j]? = some u → w.cell? (a.add (i * d.sz + j)) = some u) := by
      intro i hi
      have hi' := hel i hi
      obtain ⟨y, hy⟩ : ∃ y, elems[i]? = some y := ⟨_, List.getElem?_eq_getElem (by omega)⟩
      rw [hy] at hi'
      obtain ⟨c, h1, h2⟩ := Option.bind_eq_some_iff.1 hi'
      obtain ⟨_, hcl, hcell⟩ := World.cells?_some h1
      obtain ⟨x, hx, hok⟩ := h.2 H enc w held n c _ (by omega) h2
      refine ⟨(x, c), hcl.symm, hx, hok, fun j u hu => ?_⟩
      have hj : j < P.cellsOf e := by rw [← hcl]; exact (List.getElem?_eq_some_iff.1 hu).1
      have := hcell j hj
      rw [Go.Deep.add_add, hu, h.1] at this
      exact this
    by_cases h0 : len = 0
    · subst h0
      exact ⟨[], ⟨some a, cap, rfl, Nat.zero_le _, rfl, Nat.zero_le _, fun h => absurd h (Nat.lt_irrefl _)⟩, by simp, Nat.zero_le _⟩
    · obtain ⟨p0, _⟩ := each 0 (by omega)
      haveI : Inhabited (α × List Value) := ⟨p0⟩
      obtain ⟨q, hq⟩ := Go.Deep.choose_lt each
      have hz : ((List.range len).map (fun i => (q i).1)).length = len := by rw [List.length_map, List.length_range]
      refine ⟨(List.range len).map (fun i => (q i).1), ⟨some a, cap, by rw [hz], by rw [hz]; exact hl, rfl, by rw [hz]; unfold maxLen at hm; omega, fun _ => ⟨a, rfl, fun j p hj => ?_⟩⟩, ?_, by rw [hz]; omega⟩
      · have hjl : j < len := by have := (List.getElem?_eq_some_iff.1 hj).1; rw [hz] at this; exact this
        rw [List.getElem?_map, List.getElem?_range hjl] at hj
        obtain rfl := Option.some.inj hj
        obtain ⟨h1, h2, h3, h4⟩ := hq j hjl
        exact ⟨(q j).2, by rw [← h1, h.1], h2, h4⟩
      · intro y hy
        obtain ⟨i, hi, rfl⟩ := List.mem_map.1 hy
        exact (hq i (List.mem_range.1 hi)).2.2.1⟩

/-- fields, one behind the other, of a kind -/
def Flds {α : Type} (P : Program) (k : Nat) (off : Nat) (fs : List Field) (d : Kd α) (ok : α → Prop) : Prop :=
  ∀ (H : Type) (enc : TypeId × Value → H) (w : World) (held : Bool) (fuel : Nat) (cs : List Value), fuel ≤ k → cs.length = off + d.sz →
    (∀ f ∈ fs, ∃ x, DataW.trod enc P w 0 (fun _ => true) held fuel f.type ((cs.drop f.offset).take (P.cellsOf f.type)) = some x) → ∃ a, d.K w a (cs.drop off) ∧ ok a
theorem flds_one {off : Nat} {f : Field} (ho : f.offset = off) (h : Opn P k f.type d ok) : Flds P k off [f] d ok := fun H enc w held fuel cs hf hl hx => by
  obtain ⟨x, hx⟩ := hx f (List.mem_singleton.2 rfl)
  rw [ho, h.1, List.take_of_length_le (by rw [List.length_drop]; omega)] at hx
  exact h.2 H enc w held fuel _ x hf hx
theorem flds_cons {off : Nat} {f : Field} {fs : List Field} (ho : f.offset = off) (h : Opn P k f.type d ok) (hr : Flds P k (off + d.sz) fs b okb) : Flds P k off (f :: fs) (Kd.pair d b) (fun p => ok p.1 ∧ okb p.2) := fun H enc w held fuel cs hf hl hx => by
  obtain ⟨x, hx1⟩ := hx f (List.mem_cons_self ..)
  rw [ho, h.1] at hx1
  obtain ⟨a, ha, hoa⟩ := h.2 H enc w held fuel _ x hf hx1
  have hl' : cs.length = off + (d.sz + b.sz) := hl
  obtain ⟨y, hy, hoy⟩ := hr H enc w held fuel cs hf (by omega) (fun g hg => hx g (List.mem_cons_of_mem _ hg))
  refine ⟨(a, y), ⟨_, _, ?_, ha, hy⟩, hoa, hoy⟩
  rw [← List.drop_drop, List.take_append_drop]
theorem opn_struct {fs : Array Field} (ht : P.underlying t = some (.struct fs)) (hc : P.cellsOf t = d.sz) (h : Flds P k 0 fs.toList d ok) : Opn P (k + 1) t d ok := ⟨hc, fun H enc w held fuel cs x hf hx => by
  obtain ⟨xs, n, rfl, _, hl, hxl, hx⟩ := DataW.trod_struct ht hx
  obtain ⟨a, ha, hok⟩ := h H enc w held n cs (by omega) (by rw [hl, hc, Nat.zero_add]) (fun f hf => by
    obtain ⟨i, hi, rfl⟩ := List.mem_iff_getElem.1 hf
    rw [Array.length_toList] at hi
    have := hx i fs[i] (Array.getElem?_eq_getElem hi)
    rw [List.getElem?_eq_getElem (by omega)] at this
    exact ⟨_, by rw [Array.getElem_toList]; exact this⟩)
  exact ⟨a, ha, hok⟩⟩
/-- an argument opened -/
theorem opn_arg {H : Type} {enc : TypeId × Value → H} {W : World} {held : Bool} {v : Value} {x : DataW H} {p : List MemPlace} (h : ∀ k, Opn P k t d ok) (hx : DataW.Trod enc P W 0 (fun _ => true) held t v x p) : ∃ a, d.K W a v.cells.toList ∧ ok a := by
  obtain ⟨fuel, hf⟩ := hx
  exact (h fuel).2 H enc W held fuel _ _ (Nat.le_refl _) hf
end Go.Proofs.YtmkfeanggmjhmaaGreat.Opn

namespace Go.Proofs.YtmkfeanggmjhmaaGreat.tokenWrites
open Go Go.RowKit Go.ChangeShapes Go.WideShapes Go.ChangeAt Go.Proofs.YtmkfeanggmjhmaaGreatW.PrintWords Go.Proofs.YtmkfeanggmjhmaaGreat.Opn Go.Proofs.YtmkfeanggmjhmaaGreat.PTokenWrites
set_option linter.unusedVariables false

theorem opn37 (k : Nat) : Opn Tryz.prog k 37 k37 (fun x => (Lit.int .i64 x.f0).wf = true ∧ x.f1.size ≤ maxLen ∧ (Lit.int .i64 x.f2).wf = true) :=
  opn_iso (f := fun x : S37 => (x.f0, x.f1, x.f2)) (fun p => ⟨p.1, p.2.1, p.2.2⟩) (fun _ => rfl)
    ((opn_struct Tryz.underlying37 (by kernel_rfl) (flds_cons rfl (opn_int Tryz.underlying3 (by kernel_rfl)) (flds_cons rfl (opn_string Tryz.underlying9 (by kernel_rfl)) (flds_one rfl (opn_int Tryz.underlying3 (by kernel_rfl)))))).le (Nat.le_succ k))
theorem opn35 (k : Nat) : Opn Tryz.prog k 35 (Kd.slice 37 k37) (fun xs => (∀ x ∈ xs, (Lit.int .i64 x.f0).wf = true ∧ x.f1.size ≤ maxLen ∧ (Lit.int .i64 x.f2).wf = true) ∧ xs.length ≤ maxLen) := (opn_slice 37 Tryz.underlying35 (by kernel_rfl) (opn37 k)).le (Nat.le_succ k)

theorem toks_arg {H : Type} {enc : TypeId × Value → H} {W : World} {held : Bool} {A : Option Addr} {len cap : Nat} {d : DataW H} {p : List MemPlace}
    (h : DataW.Trod enc Tryz.prog W 0 (fun _ => true) held 35 (.slice A len cap) d p) : ∃ ts : List J.Tk, ts.length = len ∧ len ≤ cap ∧ Kd.C k37 W A ts.length (ts.map Wq.tS) := by
  obtain ⟨xs, ⟨B, c, he, hlc, hC⟩, _⟩ := opn_arg opn35 h
  simp [Value.cells] at he
  obtain ⟨rfl, rfl, rfl⟩ := he
  have e : (xs.map (fun x : S37 => ((x.f0, x.f1, x.f2) : J.Tk))).map Wq.tS = xs := by
    rw [List.map_map]
    exact List.map_id' xs
  refine ⟨xs.map (fun x => (x.f0, x.f1, x.f2)), List.length_map _, hlc, ?_⟩
  rw [e, List.length_map]
  exact hC

set_option maxRecDepth 100000 in
theorem lifted (os : Os) (started : os.Started) (H : Type) (enc : TypeId × Value → H) :
    ReturnsInHanded {} Tryz.checked os 4 .any (Rows.tokenWritesSpec.pre6 enc Tryz.prog Tryz.f4 Rows.tokenWritesRow.domain false) (Rows.tokenWritesSpec.post enc Tryz.prog Tryz.f4 false true false false) := by
  refine returnsInHanded_of_change (C := Tryz.checked) Row.own started (by kernel_rfl) Tryz.func4
    (ChangeSpec.witness6 (enc := enc) (C := Tryz.checked) false ⟨#[], #[.slice none 0 0, .slice none 0 0], []⟩ 8 (by kernel_rfl) (by kernel_rfl) (by kernel_rfl) (by kernel_rfl)) ?_
  intro W base args ds gs before hval0 hW hcnd _
  have hval : ∀ (j : Nat) t v, Tryz.f4.params[j]? = some t → args[j]? = some v → Value.okWide Tryz.prog W .any base t v := hval0
  have hW' := hW
  obtain ⟨p, q, hA0, hV, rfl, hfz, hnd⟩ := hW
  have hA : DataW.TrodAll enc Tryz.prog W 0 (fun _ => true) true Tryz.f4.params.toList args.toList ds p := hA0
  rw [Tryz.params4] at hA hval
  obtain ⟨v0, v1, d0, d1, p0, p1, rfl, rfl, rfl, h0, h1⟩ := trodAll_two hA
  obtain ⟨rfl, rfl⟩ := trodVars_none hV
  obtain ⟨a0, len0, cap0, rfl⟩ := okWide_slice Tryz.underlying22 (hval 0 22 v0 rfl rfl)
  obtain ⟨a1, len1, cap1, rfl⟩ := okWide_slice Tryz.underlying35 (hval 1 35 v1 rfl rfl)
  have k0 := h0
  have k1 := h1
  have lt0 : ∀ x ∈ p0, x.block < W.heap.size := by obtain ⟨m, hm⟩ := k0; exact DataW.trod_lt m _ _ _ hm
  have lt1 : ∀ x ∈ p1, x.block < W.heap.size := by obtain ⟨m, hm⟩ := k1; exact DataW.trod_lt m _ _ _ hm
  obtain ⟨l, rfl, hlc, hC⟩ := Row.strings_arg h0
  obtain ⟨ts, rfl, htc, hT⟩ := toks_arg h1
  clear hA0 hval0
  refine (Wq.TokenWrites_calls a0 cap0 l hlc a1 cap1 ts htc W hC hT).mono fun e W' ⟨he, bel⟩ => ?_
  subst he
  exact ⟨_, rfl, _, _, _, [], _, [], hW', trodAll_mk1 (shut_bool Tryz.underlying4 _), trodAll_mk2 (Below.trod Row.laidOut (by kernel_rfl) (of_decide_eq_true (by kernel_rfl)) k0 bel lt0) (Below.trod Row.laidOut (by kernel_rfl) (of_decide_eq_true (by kernel_rfl)) k1 bel lt1), rfl, bel.frame _, fun h => by cases h⟩

theorem over : Rows.tokenWritesRow.holds Tryz.pinned (OpenSpec.ofChange Rows.tokenWritesSpec) :=
  OpenClaim.holds_of_wide 4 Tryz.f4 rfl rfl rfl rfl rfl rfl rfl ⟨rfl, rfl, rfl, rfl, rfl⟩ rfl rfl rfl rfl rfl (by kernel_rfl) Tryz.func4 (by kernel_rfl)
    (of_decide_eq_true (by kernel_rfl)) (by unfold Func.isWrapper; first | (rw [if_pos (by decide +kernel)]; kernel_rfl) | (rw [if_neg (by decide +kernel)]; exact ⟨rfl, rfl⟩))
    (fun os started H enc _ => lifted os started H enc)
end Go.Proofs.YtmkfeanggmjhmaaGreat.tokenWrites
namespace Go.Proofs.YtmkfeanggmjhmaaGreat
theorem tokenWrites_holds : Rows.TokenWritesSaid := tokenWrites.over
end Go.Proofs.YtmkfeanggmjhmaaGreat
