/- Data that lies in memory, read: kinds of data, each with the blocks S that it leans on.  It names no program. -/
import Derived.Test.YthfomoigaoffgaaGreatK
import Derived.Deep.Slices
import Derived.ChangeShapes
import Derived.Laws.AppendOwn
namespace Go.Proofs.YthfomoigaoffgaaGreat.G
set_option linter.unusedSimpArgs false
set_option linter.unusedVariables false
open Go Go.RowKit Go.Proofs.YthfomoigaoffgaaGreat.K

/-- A kind of data: how many cells, and when cells read as a value, by the blocks S alone. -/
structure Rd (α : Type) where
  sz : Nat
  K : (Nat → Prop) → World → α → List Value → Prop
  len : ∀ {S w x cs}, K S w x cs → cs.length = sz
  one : ∀ {S w x cs}, K S w x cs → ∀ u ∈ cs, u.oneCell' = true
  bound : ∀ {S : Nat → Prop} {w : World} {x cs}, K S w x cs → K (fun k => S k ∧ k < w.heap.size) w x cs
  mono : ∀ {S S' : Nat → Prop} {w x cs}, (∀ k, S k → S' k) → K S w x cs → K S' w x cs
  move : ∀ {S : Nat → Prop} {w w' : World} {x cs}, (∀ k, S k → k < w.heap.size → w'.heap[k]? = w.heap[k]?) → K S w x cs → K S w' x cs

/-- A row of elements at an address. -/
def C {α : Type} (d : Rd α) (S : Nat → Prop) (w : World) (A : Option Addr) (xs : List α) : Prop :=
  xs.length ≤ maxLen ∧ (xs ≠ [] → ∃ b o, A = some ⟨b, o, none⟩ ∧ S b ∧ b < w.heap.size ∧ ∀ j x, xs[j]? = some x → ∃ cs, d.K S w x cs ∧ ∀ i u, cs[i]? = some u → w.cell? ⟨b, o + j * d.sz + i, none⟩ = some u)

section
variable {α β : Type} {d : Rd α} {S S' : Nat → Prop} {w w' : World} {A : Option Addr} {xs : List α}
theorem C.len (h : C d S w A xs) : xs.length ≤ maxLen := h.1
theorem C.nil (d : Rd α) (S : Nat → Prop) (w : World) (A : Option Addr) : C d S w A [] := ⟨Nat.zero_le _, fun h => absurd rfl h⟩
theorem C.bound (h : C d S w A xs) : C d (fun k => S k ∧ k < w.heap.size) w A xs := ⟨h.1, fun hn => by
  obtain ⟨b, o, e, hs, hb, hc⟩ := h.2 hn
  exact ⟨b, o, e, ⟨hs, hb⟩, hb, fun j x hj => by
    obtain ⟨cs, hk, hcc⟩ := hc j x hj
    exact ⟨cs, d.bound hk, hcc⟩⟩⟩
theorem C.mono (hm : ∀ k, S k → S' k) (h : C d S w A xs) : C d S' w A xs := ⟨h.1, fun hn => by
  obtain ⟨b, o, e, hs, hb, hc⟩ := h.2 hn
  exact ⟨b, o, e, hm _ hs, hb, fun j x hj => by
    obtain ⟨cs, hk, hcc⟩ := hc j x hj
    exact ⟨cs, d.mono hm hk, hcc⟩⟩⟩
theorem lt_moved {b : Nat} (hb : b < w.heap.size) (h : w'.heap[b]? = w.heap[b]?) : b < w'.heap.size := by
  rw [Array.getElem?_eq_getElem hb] at h
  exact (Array.getElem?_eq_some_iff.1 h).1
theorem C.move (hm : ∀ k, S k → k < w.heap.size → w'.heap[k]? = w.heap[k]?) (h : C d S w A xs) : C d S w' A xs := ⟨h.1, fun hn => by
  obtain ⟨b, o, e, hs, hb, hc⟩ := h.2 hn
  exact ⟨b, o, e, hs, lt_moved hb (hm b hs hb), fun j x hj => by
    obtain ⟨cs, hk, hcc⟩ := hc j x hj
    exact ⟨cs, d.move hm hk, fun i u hu => by rw [← hcc i u hu]; exact World.cell?_of_block (hm b hs hb)⟩⟩⟩
theorem Rd.chg {T : Nat → Prop} {x : α} {cs : List Value} (h : d.K S w x cs) (hc : Chg T w w') (hn : ∀ k, S k → k < w.heap.size → ¬ T k) : d.K S w' x cs := d.move (fun k hs hk => hc.block k hk (hn k hs hk)) h
theorem Rd.below {x : α} {cs : List Value} (h : d.K S w x cs) (hb : Below w.heap.size w w') : d.K S w' x cs := d.move (fun k _ hk => hb.block k hk) h
theorem Rd.belowN {n : Nat} {x : α} {cs : List Value} (h : d.K S w x cs) (hb : Below n w w') (hn : ∀ k, S k → k < n) : d.K S w' x cs := d.move (fun k hs _ => hb.block k (hn k hs)) h
theorem C.chg {T : Nat → Prop} (h : C d S w A xs) (hc : Chg T w w') (hn : ∀ k, S k → k < w.heap.size → ¬ T k) : C d S w' A xs := h.move (fun k hs hk => hc.block k hk (hn k hs hk))
theorem C.below (h : C d S w A xs) (hb : Below w.heap.size w w') : C d S w' A xs := h.move (fun k _ hk => hb.block k hk)
theorem C.belowN {n : Nat} (h : C d S w A xs) (hb : Below n w w') (hn : ∀ k, S k → k < n) : C d S w' A xs := h.move (fun k hs _ => hb.block k (hn k hs))
theorem C.at_ (h : C d S w A xs) (j : Nat) (hj : j < xs.length) : ∃ b o cs, A = some ⟨b, o, none⟩ ∧ S b ∧ b < w.heap.size ∧ d.K S w (xs[j]'hj) cs ∧ ∀ i u, cs[i]? = some u → w.cell? ⟨b, o + j * d.sz + i, none⟩ = some u := by
  obtain ⟨b, o, e, hs, hb, hc⟩ := h.2 (fun e => by rw [e] at hj; exact absurd hj (Nat.not_lt_zero _))
  obtain ⟨cs, hk, hcc⟩ := hc j _ (List.getElem?_eq_getElem hj)
  exact ⟨b, o, cs, e, hs, hb, hk, hcc⟩
theorem C.take (h : C d S w A xs) (m : Nat) : C d S w A (xs.take m) := ⟨Nat.le_trans (List.length_take_le' ..) h.1, fun hn => by
  obtain ⟨b, o, e, hs, hb, hc⟩ := h.2 (fun e => by rw [e] at hn; exact hn (List.take_nil))
  exact ⟨b, o, e, hs, hb, fun j x hj => hc j x (by
    rw [List.getElem?_take] at hj
    split at hj
    · exact hj
    · cases hj)⟩⟩
theorem C.drop {b o : Nat} (h : C d S w (some ⟨b, o, none⟩) xs) (m : Nat) : C d S w (some ⟨b, o + m * d.sz, none⟩) (xs.drop m) := ⟨by rw [List.length_drop]; exact Nat.le_trans (Nat.sub_le ..) h.1, fun hn => by
  obtain ⟨b', o', e, hs, hb, hc⟩ := h.2 (fun e => by rw [e] at hn; exact hn (List.drop_nil))
  injection e with e
  injection e with e1 e2 _
  subst e1; subst e2
  exact ⟨b, _, rfl, hs, hb, fun j x hj => by
    rw [List.getElem?_drop] at hj
    obtain ⟨cs, hk, hcc⟩ := hc _ x hj
    refine ⟨cs, hk, fun i u hu => ?_⟩
    rw [← hcc i u hu, show o + m * d.sz + j * d.sz + i = o + (m + j) * d.sz + i by rw [Nat.add_mul]; omega]⟩⟩
end

/-! ### the kinds -/
def scalar {α : Type} (f : α → Value) (h : ∀ x, (f x).oneCell' = true) : Rd α where
  sz := 1
  K _ _ x cs := cs = [f x]
  len h := by rw [h]; rfl
  one h u hu := by subst h; rw [List.mem_singleton.1 hu]; exact ‹∀ x, (f x).oneCell' = true› _
  bound h := h
  mono _ h := h
  move _ h := h
def int (k : IntKind) : Rd Int := scalar (Value.int k) (fun _ => rfl)
def bool : Rd Bool := scalar Value.bool (fun _ => rfl)
def str : Rd ByteArray := scalar Value.string (fun _ => rfl)
def slice {α : Type} (d : Rd α) : Rd (List α) where
  sz := 1
  K S w xs cs := ∃ A c, cs = [.slice A xs.length c] ∧ xs.length ≤ c ∧ C d S w A xs
  len h := by obtain ⟨A, c, rfl, _⟩ := h; rfl
  one h u hu := by obtain ⟨A, c, rfl, _⟩ := h; rw [List.mem_singleton.1 hu]; rfl
  bound h := by obtain ⟨A, c, e, l, g⟩ := h; exact ⟨A, c, e, l, g.bound⟩
  mono hm h := by obtain ⟨A, c, e, l, g⟩ := h; exact ⟨A, c, e, l, g.mono hm⟩
  move hm h := by obtain ⟨A, c, e, l, g⟩ := h; exact ⟨A, c, e, l, g.move hm⟩
def pair {α β : Type} (a : Rd α) (b : Rd β) : Rd (α × β) where
  sz := a.sz + b.sz
  K S w x cs := ∃ c1 c2, cs = c1 ++ c2 ∧ a.K S w x.1 c1 ∧ b.K S w x.2 c2
  len h := by obtain ⟨c1, c2, rfl, h1, h2⟩ := h; rw [List.length_append, a.len h1, b.len h2]
  one h u hu := by
    obtain ⟨c1, c2, rfl, h1, h2⟩ := h
    rcases List.mem_append.1 hu with hu | hu
    · exact a.one h1 u hu
    · exact b.one h2 u hu
  bound h := by obtain ⟨c1, c2, e, h1, h2⟩ := h; exact ⟨c1, c2, e, a.bound h1, b.bound h2⟩
  mono hm h := by obtain ⟨c1, c2, e, h1, h2⟩ := h; exact ⟨c1, c2, e, a.mono hm h1, b.mono hm h2⟩
  move hm h := by obtain ⟨c1, c2, e, h1, h2⟩ := h; exact ⟨c1, c2, e, a.move hm h1, b.move hm h2⟩
def iso {α β : Type} (d : Rd α) (f : β → α) : Rd β where
  sz := d.sz
  K S w x cs := d.K S w (f x) cs
  len h := d.len h
  one h := d.one h
  bound h := d.bound h
  mono hm h := d.mono hm h
  move hm h := d.move hm h
def none_ {α : Type} (sz : Nat) : Rd α where
  sz := sz
  K _ _ _ _ := False
  len h := h.elim
  one h := h.elim
  bound h := h
  mono _ h := h
  move _ h := h
/-- data nested in itself, up to a depth -/
def upto {α : Type} (F : Rd α → Rd α) (sz : Nat) : Nat → Rd α
  | 0 => none_ sz
  | n + 1 => F (upto F sz n)
def fix {α : Type} (F : Rd α → Rd α) (sz : Nat) (hs : ∀ n, (upto F sz n).sz = sz) : Rd α where
  sz := sz
  K S w x cs := ∃ n, (upto F sz n).K S w x cs
  len h := by obtain ⟨n, h⟩ := h; rw [(upto F sz n).len h, hs]
  one h := by obtain ⟨n, h⟩ := h; exact (upto F sz n).one h
  bound h := by obtain ⟨n, h⟩ := h; exact ⟨n, (upto F sz n).bound h⟩
  mono hm h := by obtain ⟨n, h⟩ := h; exact ⟨n, (upto F sz n).mono hm h⟩
  move hm h := by obtain ⟨n, h⟩ := h; exact ⟨n, (upto F sz n).move hm h⟩
/-- a narrower kind gives a wider one -/
def Le {α : Type} (d e : Rd α) : Prop := d.sz = e.sz ∧ ∀ S w x cs, d.K S w x cs → e.K S w x cs
theorem Le.refl {α : Type} (d : Rd α) : Le d d := ⟨rfl, fun _ _ _ _ h => h⟩
theorem Le.none {α : Type} {d : Rd α} {sz : Nat} (h : d.sz = sz) : Le (none_ sz) d := ⟨h.symm, fun _ _ _ _ h => h.elim⟩
theorem Le.trans {α : Type} {d e f : Rd α} (h : Le d e) (k : Le e f) : Le d f := ⟨h.1.trans k.1, fun _ _ _ _ x => k.2 _ _ _ _ (h.2 _ _ _ _ x)⟩
theorem Le.C {α : Type} {d e : Rd α} (h : Le d e) {S : Nat → Prop} {w : World} {A : Option Addr} {xs : List α} (g : C d S w A xs) : C e S w A xs := ⟨g.1, fun hn => by
  obtain ⟨b, o, e1, hs, hb, hc⟩ := g.2 hn
  exact ⟨b, o, e1, hs, hb, fun j x hj => by
    obtain ⟨cs, hk, hcc⟩ := hc j x hj
    exact ⟨cs, h.2 _ _ _ _ hk, by rw [← h.1]; exact hcc⟩⟩⟩
theorem Le.slice {α : Type} {d e : Rd α} (h : Le d e) : Le (slice d) (slice e) := ⟨rfl, fun S w x cs hk => by
  obtain ⟨A, c, e1, l, g⟩ := hk
  exact ⟨A, c, e1, l, h.C g⟩⟩
theorem Le.pair {α β : Type} {d e : Rd α} {d' e' : Rd β} (h : Le d e) (h' : Le d' e') : Le (pair d d') (pair e e') := ⟨by show d.sz + d'.sz = e.sz + e'.sz; rw [h.1, h'.1], fun S w x cs hk => by
  obtain ⟨c1, c2, e1, h1, h2⟩ := hk
  exact ⟨c1, c2, e1, h.2 _ _ _ _ h1, h'.2 _ _ _ _ h2⟩⟩
theorem Le.iso {α β : Type} {d e : Rd α} (h : Le d e) (f : β → α) : Le (iso d f) (iso e f) := ⟨h.1, fun S w x cs hk => h.2 S w (f x) cs hk⟩
def Mono {α : Type} (F : Rd α → Rd α) : Prop := ∀ d e, Le d e → Le (F d) (F e)
theorem upto_le {α : Type} {F : Rd α → Rd α} {sz : Nat} (hF : Mono F) (hs : ∀ n, (upto F sz n).sz = sz) : ∀ n, Le (upto F sz n) (upto F sz (n + 1))
  | 0 => Le.none (hs 1)
  | n + 1 => hF _ _ (upto_le hF hs n)
theorem upto_mono {α : Type} {F : Rd α → Rd α} {sz : Nat} (hF : Mono F) (hs : ∀ n, (upto F sz n).sz = sz) : ∀ n m, n ≤ m → Le (upto F sz n) (upto F sz m) := by
  intro n m h
  induction m with
  | zero =>
    have e : n = 0 := by omega
    subst e
    exact Le.refl _
  | succ m ih =>
    by_cases e : n = m + 1
    · subst e; exact Le.refl _
    · exact (ih (by omega)).trans (upto_le hF hs m)
/-- a row of nested data: one depth for all -/
theorem fix_C {α : Type} {F : Rd α → Rd α} {sz : Nat} (hF : Mono F) (hs : ∀ n, (upto F sz n).sz = sz) {S : Nat → Prop} {w : World} {A : Option Addr} {xs : List α} :
    C (fix F sz hs) S w A xs ↔ ∃ n, C (upto F sz n) S w A xs := by
  constructor
  · intro h
    by_cases hn : xs = []
    · subst hn; exact ⟨0, C.nil ..⟩
    obtain ⟨b, o, e1, hS, hb, hc⟩ := h.2 hn
    have hsz : (fix F sz hs).sz = sz := rfl
    rw [hsz] at hc
    have key : ∀ m, m ≤ xs.length → ∃ n, ∀ j x, j < m → xs[j]? = some x → ∃ cs, (upto F sz n).K S w x cs ∧ ∀ i u, cs[i]? = some u → w.cell? ⟨b, o + j * sz + i, none⟩ = some u := by
      intro m hm
      induction m with
      | zero => exact ⟨0, fun j x hj => absurd hj (Nat.not_lt_zero _)⟩
      | succ m ih =>
        obtain ⟨n, hn'⟩ := ih (by omega)
        obtain ⟨cs, ⟨q, hq⟩, hcc⟩ := hc m _ (List.getElem?_eq_getElem (by omega))
        refine ⟨max n q, fun j x hj hx => ?_⟩
        by_cases e : j = m
        · subst e
          rw [List.getElem?_eq_getElem (by omega)] at hx
          cases hx
          exact ⟨cs, (upto_mono hF hs q _ (Nat.le_max_right ..)).2 _ _ _ _ hq, hcc⟩
        · obtain ⟨cs', hk, hcc'⟩ := hn' j x (by omega) hx
          exact ⟨cs', (upto_mono hF hs n _ (Nat.le_max_left ..)).2 _ _ _ _ hk, hcc'⟩
    obtain ⟨n, hn'⟩ := key xs.length (Nat.le_refl _)
    exact ⟨n, h.1, fun _ => ⟨b, o, e1, hS, hb, fun j x hj => by
      rw [hs]
      exact hn' j x (List.getElem?_eq_some_iff.1 hj).1 hj⟩⟩
  · rintro ⟨n, h⟩
    refine ⟨h.1, fun hn => ?_⟩
    obtain ⟨b, o, e1, hS, hb, hc⟩ := h.2 hn
    rw [hs] at hc
    exact ⟨b, o, e1, hS, hb, fun j x hj => by
      obtain ⟨cs, hk, hcc⟩ := hc j x hj
      exact ⟨cs, ⟨n, hk⟩, hcc⟩⟩

/-! ### an argument opened -/
open Go.Deep Go.WideShapes Go.ChangeShapes
/-- Data of type t that is handed in, read with so much fuel, reads so, and is ok. -/
def Opens (P : Program) {α : Type} (d : Rd α) (ok : α → Prop) (t : TypeId) (n : Nat) : Prop :=
  ∀ m, m ≤ n → ∀ (H : Type) (enc : TypeId × Value → H) (W : World) (spare : Nat → Bool) (held : Bool) (cs : List Value) (x : DataW H × List MemPlace),
    DataW.trod enc P W 0 spare held m t cs = some x → ∃ a : α, d.K (fun _ => True) W a cs ∧ ok a
/-- .. the last fields of a struct, from a place on -/
def OpensFs (P : Program) {α : Type} (d : Rd α) (ok : α → Prop) (fs : List Field) (off : Nat) (n : Nat) : Prop :=
  ∀ m, m ≤ n → ∀ (H : Type) (enc : TypeId × Value → H) (W : World) (spare : Nat → Bool) (held : Bool) (cs : List Value), off + d.sz = cs.length →
    (∀ f ∈ fs, ∃ y, DataW.trod enc P W 0 spare held m f.type ((cs.drop f.offset).take (P.cellsOf f.type)) = some y) → ∃ a : α, d.K (fun _ => True) W a (cs.drop off) ∧ ok a
section
variable {P : Program} {α β : Type} {d : Rd α} {ok : α → Prop} {t e : TypeId} {n : Nat}
theorem Opens.weaken {ok' : α → Prop} (h : Opens P d ok t n) (hk : ∀ a, ok a → ok' a) : Opens P d ok' t n := fun m hm H enc W sp hd cs x hx => by
  obtain ⟨a, h1, h2⟩ := h m hm H enc W sp hd cs x hx
  exact ⟨a, h1, hk a h2⟩
theorem Opens.le {d' : Rd α} (h : Opens P d ok t n) (hl : Le d d') : Opens P d' ok t n := fun m hm H enc W sp hd cs x hx => by
  obtain ⟨a, h1, h2⟩ := h m hm H enc W sp hd cs x hx
  exact ⟨a, hl.2 _ _ _ _ h1, h2⟩
theorem opens_str (ht : P.underlying t = some .string) (n : Nat) : Opens P str (fun s => s.size ≤ maxLen) t n := fun m hm H enc W sp hd cs x hx => by
  obtain ⟨s, rfl, _, h⟩ := DataW.trod_string ht hx
  exact ⟨s, rfl, h⟩
theorem opens_bool (ht : P.underlying t = some .bool) (n : Nat) : Opens P bool (fun _ => True) t n := fun m hm H enc W sp hd cs x hx => by
  obtain ⟨s, rfl, _⟩ := DataW.trod_bool ht hx
  exact ⟨s, rfl, trivial⟩
theorem opens_int {k : IntKind} (ht : P.underlying t = some (.int k)) (n : Nat) : Opens P (int k) (fun x => (Lit.int k x).wf = true) t n := fun m hm H enc W sp hd cs x hx => by
  obtain ⟨s, rfl, _, h⟩ := DataW.trod_int ht hx
  exact ⟨s, rfl, h⟩
theorem Opens.iso (h : Opens P d ok t n) (f : β → α) (g : α → β) (hfg : ∀ a, f (g a) = a) : Opens P (iso d f) (fun b => ok (f b)) t n := fun m hm H enc W sp hd cs x hx => by
  obtain ⟨a, h1, h2⟩ := h m hm H enc W sp hd cs x hx
  exact ⟨g a, by show d.K _ _ (f (g a)) _; rw [hfg]; exact h1, by show ok (f (g a)); rw [hfg]; exact h2⟩
theorem Opens.slice (h : Opens P d ok e n) (ht : P.underlying t = some (.slice e)) (hc : P.cellsOf e = d.sz) (hp : 0 < d.sz) : Opens P (slice d) (fun l => ∀ a ∈ l, ok a) t n := fun m hm H enc W sp hd cs x hx => by
  rcases DataW.trod_slice ht hx with ⟨rfl, _⟩ | ⟨a, len, cap, elems, rest, q, hq, rfl, rfl, hb, hl, hcm, hlen, hel, _⟩
  · exact ⟨[], ⟨none, 0, rfl, Nat.le_refl _, C.nil ..⟩, fun a ha => absurd ha List.not_mem_nil⟩
  · have key : ∀ i, i < len → ∃ cs' y, W.cells? 0 (a.add (i * P.cellsOf e)) (P.cellsOf e) = some cs' ∧ DataW.trod enc P W 0 sp hd q e cs' = some y := fun i hi => by
      have h1 := hel i hi
      rw [List.getElem?_eq_getElem (by omega)] at h1
      obtain ⟨cs', h2, h3⟩ := Option.bind_eq_some_iff.1 h1
      exact ⟨cs', _, h2, h3⟩
    have hev : ∀ k, k ≤ len → ∃ l : List α, l.length = k ∧ (∀ x ∈ l, ok x) ∧ ∀ j x, l[j]? = some x → ∃ cs', d.K (fun _ => True) W x cs' ∧ W.cells? 0 (a.add (j * d.sz)) d.sz = some cs' := by
      intro k hk
      induction k with
      | zero => exact ⟨[], rfl, fun x hx => absurd hx List.not_mem_nil, fun j x hj => by simp at hj⟩
      | succ k ih =>
        obtain ⟨l, h1, h2, h3⟩ := ih (by omega)
        obtain ⟨cs', y, g1, g2⟩ := key k (by omega)
        obtain ⟨v, g3, g4⟩ := h q (by omega) H enc W sp hd cs' y g2
        rw [hc] at g1
        refine ⟨l ++ [v], by simp [h1], fun x hx => ?_, fun j x hj => ?_⟩
        · rcases List.mem_append.1 hx with hx | hx
          · exact h2 x hx
          · rw [List.mem_singleton.1 hx]; exact g4
        · by_cases hjk : j < l.length
          · rw [List.getElem?_append_left hjk] at hj
            exact h3 j x hj
          · have : j = k := by
              have := (List.getElem?_eq_some_iff.1 hj).1
              rw [List.length_append, List.length_singleton] at this
              omega
            subst this
            rw [List.getElem?_append_right (by omega), h1, Nat.sub_self] at hj
            cases hj
            exact ⟨cs', g3, g1⟩
    obtain ⟨l, h1, h2, h3⟩ := hev len (Nat.le_refl _)
    refine ⟨l, ⟨some a, cap, by rw [h1], by omega, by omega, fun hn => ?_⟩, h2⟩
    have hz : 0 < l.length := List.length_pos_iff.2 hn
    obtain ⟨cs0, k0, c0⟩ := h3 0 _ (List.getElem?_eq_getElem hz)
    obtain ⟨_, hl0, hcell0⟩ := World.cells?_some c0
    have hc00 := hcell0 0 hp
    rw [Nat.zero_mul, List.getElem?_eq_getElem (by rw [hl0]; exact hp)] at hc00
    have e0 : (a.add 0).add 0 = a := by simp [Addr.add]
    rw [e0] at hc00
    have hsp := World.cell?_spot hc00
    obtain ⟨b, o, spot⟩ := a
    simp only at hsp
    subst hsp
    have adp : ∀ i, (⟨b, o, none⟩ : Addr).add i = ⟨b, o + i, none⟩ := fun i => by unfold Addr.add; split <;> simp_all
    have adp2 : ∀ o' i, (⟨b, o', none⟩ : Addr).add i = ⟨b, o' + i, none⟩ := fun o' i => by unfold Addr.add; split <;> simp_all
    refine ⟨b, o, rfl, trivial, lt_of_cell hc00, fun j x hj => ?_⟩
    obtain ⟨cs', k1, c1⟩ := h3 j x hj
    obtain ⟨_, hl1, hcell1⟩ := World.cells?_some c1
    refine ⟨cs', k1, fun i u hu => ?_⟩
    have hi := (List.getElem?_eq_some_iff.1 hu).1
    have := hcell1 i (by omega)
    rw [adp, adp2] at this
    rw [this, hu]
theorem Opens.last (h : Opens P d ok e n) {f : Field} {off : Nat} (hf : f.type = e) (ho : f.offset = off) (hc : P.cellsOf e = d.sz) : OpensFs P d ok [f] off n := fun m hm H enc W sp hd cs hl hy => by
  obtain ⟨y, h1⟩ := hy f (List.mem_singleton.2 rfl)
  rw [hf, ho, hc, List.take_of_length_le (by rw [List.length_drop]; omega)] at h1
  exact h m hm H enc W sp hd _ y h1
theorem Opens.cons {d2 : Rd β} {ok2 : β → Prop} (h : Opens P d ok e n) {f : Field} {fs : List Field} {off : Nat} (hs : OpensFs P d2 ok2 fs (off + d.sz) n) (hf : f.type = e) (ho : f.offset = off) (hc : P.cellsOf e = d.sz) :
    OpensFs P (pair d d2) (fun x => ok x.1 ∧ ok2 x.2) (f :: fs) off n := fun m hm H enc W sp hd cs hl hy => by
  have hl' : off + (d.sz + d2.sz) = cs.length := hl
  obtain ⟨y, h1⟩ := hy f (List.mem_cons_self ..)
  rw [hf, ho, hc] at h1
  obtain ⟨a, k1, k2⟩ := h m hm H enc W sp hd _ y h1
  obtain ⟨b, k3, k4⟩ := hs m hm H enc W sp hd cs (by omega) (fun g hg => hy g (List.mem_cons_of_mem _ hg))
  refine ⟨(a, b), ⟨_, _, ?_, k1, k3⟩, k2, k4⟩
  rw [← List.drop_drop, List.take_append_drop]
theorem OpensFs.struct {fs : Array Field} {l : List Field} (h : OpensFs P d ok l 0 n) (ht : P.underlying t = some (.struct fs)) (hl : fs.toList = l) (hc : P.cellsOf t = d.sz) : Opens P d ok t (n + 1) := fun m hm H enc W sp hd cs x hx => by
  obtain ⟨xs, q, hq, _, h1, h2, h3⟩ := DataW.trod_struct ht hx
  obtain ⟨a, k1, k2⟩ := h q (by omega) H enc W sp hd cs (by omega) (fun f hf => by
    rw [← hl] at hf
    obtain ⟨i, hi, e⟩ := List.mem_iff_getElem.1 hf
    have hi' : i < fs.size := by simpa using hi
    have h4 := h3 i f (by rw [Array.getElem?_eq_getElem hi']; rw [← e]; simp)
    rw [List.getElem?_eq_getElem (by omega)] at h4
    exact ⟨_, h4⟩)
  exact ⟨a, k1, k2⟩
end
/-- data nested in itself -/
theorem opens_fix {P : Program} {α : Type} {F : Rd α → Rd α} {sz : Nat} {hs : ∀ n, (upto F sz n).sz = sz} {ok : α → Prop} {t : TypeId} (hF : Mono F)
    (h : ∀ n d, d.sz = sz → Opens P d ok t n → Opens P (F d) ok t (n + 1)) (n : Nat) : Opens P (fix F sz hs) ok t n := by
  have key : ∀ n, Opens P (upto F sz n) ok t n := by
    intro n
    induction n with
    | zero =>
      intro m hm H enc W sp hd cs x hx
      obtain rfl : m = 0 := by omega
      simp [DataW.trod] at hx
    | succ n ih => exact h n _ (hs n) ih
  exact (key n).le ⟨hs n, fun S w x cs hk => ⟨n, hk⟩⟩
end Go.Proofs.YthfomoigaoffgaaGreat.G
