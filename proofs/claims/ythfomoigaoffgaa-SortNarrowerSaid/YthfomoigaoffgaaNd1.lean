/- Walks of sort.Needed: the searches for a constructor, an arity. -/
import Derived.Test.YthfomoigaoffgaaNd0
import Derived.Test.YthfomoigaoffgaaO7
import Derived.Test.YthfomoigaoffgaaIy
import Derived.Test.YthfomoigaoffgaaAr4
namespace Go.Proofs.Ythfomoigaoffgaa.Nd
open Go Go.RowKit Go.Proofs.Ythfomoigaoffgaa.K Go.Proofs.Ythfomoigaoffgaa.G Go.Proofs.Ythfomoigaoffgaa.Ix Go.Proofs.Ythfomoigaoffgaa.O Go.Proofs.Ythfomoigaoffgaa.So
set_option linter.unusedSimpArgs false
set_option linter.unusedVariables false

theorem n1_calls (S : Nat → Prop) (nm : ByteArray) (B : Nat) (W : World) (x : Td) (cs : List Value) (hB : W.cell? ⟨B, 0, none⟩ = some (.string nm)) (hK : kTd.K S W x cs) :
    Calls Try.prog 83 #[aggV cs, .pointer (some ⟨B, 0, none⟩)] W fun e W' => e = .returned (.bool (x.1 == nm)) ∧ Below W.heap.size W W' := by
  obtain rfl := kTd_open hK
  have hB' := (cell_old W (.cells #[.string x.1, .int .i64 x.2] 81) B 0 (lt_of_cell hB)).trans hB
  have HE := Lib.hid (str_eq x.1 nm)
  unfold aggV
  clear hK hB
  go_enter Try.func83, Try.ntmps83
  go_wp2
  go_ret
  exact ⟨by rw [HE.out]; rfl, (Below.refl _ _).alloc (Nat.le_refl _) _⟩
theorem n2_calls (S : Nat → Prop) (nm c : ByteArray) (B D : Nat) (W : World) (x : Arx) (cs : List Value) (hB : W.cell? ⟨B, 0, none⟩ = some (.string nm)) (hD : W.cell? ⟨D, 0, none⟩ = some (.string c)) (hK : kAr.K S W x cs) :
    Calls Try.prog 85 #[aggV cs, .pointer (some ⟨B, 0, none⟩), .pointer (some ⟨D, 0, none⟩)] W fun e W' => e = .returned (.bool (x.1 == nm && x.2.1 == c)) ∧ Below W.heap.size W W' := by
  obtain ⟨A, cp, rfl, _, _⟩ := kAr_open hK
  have hB' := (cell_old W (.cells #[.string x.1, .string x.2.1, .slice A x.2.2.length cp] 58) B 0 (lt_of_cell hB)).trans hB
  have hD' := (cell_old W (.cells #[.string x.1, .string x.2.1, .slice A x.2.2.length cp] 58) D 0 (lt_of_cell hD)).trans hD
  have he1 := str_eq x.1 nm
  have he2 := str_eq x.2.1 c
  unfold aggV
  clear hK hB hD
  cases h1 : (x.1 == nm) with
  | false =>
    rw [h1] at he1
    clear h1 he2
    go_enter Try.func85, Try.ntmps85
    go_wp2
    go_ret
    exact ⟨rfl, (Below.refl _ _).alloc (Nat.le_refl _) _⟩
  | true =>
    rw [h1] at he1
    generalize (x.2.1 == c) = R at he2
    clear h1
    go_enter Try.func85, Try.ntmps85
    go_wp2
    go_ret
    exact ⟨rfl, (Below.refl _ _).alloc (Nat.le_refl _) _⟩
theorem tidx_calls (S : Nat → Prop) (r : Raw) (T : Thy) (nm : ByteArray) (B : Nat) (W : World) (hT : ThyR S W r T) (hB : W.cell? ⟨B, 0, none⟩ = some (.string nm)) :
    Calls Try.prog 82 #[.slice r.a2 T.tys.length r.c2, .func (.func 83) #[] #[.pointer (some ⟨B, 0, none⟩)]] W fun e W' => e = .returned (.int .i64 (tidx T.tys nm)) ∧ Below W.heap.size W W' :=
  IndexFunc_apiTypeDecl kTd S Try.sizeOf81 (fun d => d.1 == nm) 83 #[.pointer (some ⟨B, 0, none⟩)] (enters_of Try.func83 (by kernel_rfl) rfl) r.a2 r.c2 T.tys W
    (fun W' x cs _ hb hK => n1_calls S nm B W' x cs ((hb.cell (p := ⟨B, 0, none⟩) (lt_of_cell hB)).trans hB) hK) hT.tys hT.tysc
theorem aidx_calls (S : Nat → Prop) (r : Raw) (T : Thy) (nm c : ByteArray) (B D : Nat) (W : World) (hT : ThyR S W r T) (hB : W.cell? ⟨B, 0, none⟩ = some (.string nm)) (hD : W.cell? ⟨D, 0, none⟩ = some (.string c)) :
    Calls Try.prog 84 #[.slice r.a3 T.ars.length r.c3, .func (.func 85) #[] #[.pointer (some ⟨B, 0, none⟩), .pointer (some ⟨D, 0, none⟩)]] W fun e W' => e = .returned (.int .i64 (aidx T.ars nm c)) ∧ Below W.heap.size W W' :=
  IndexFunc_apiArity kAr S Try.sizeOf58 (fun a => a.1 == nm && a.2.1 == c) 85 #[.pointer (some ⟨B, 0, none⟩), .pointer (some ⟨D, 0, none⟩)] (enters_of Try.func85 (by kernel_rfl) rfl) r.a3 r.c3 T.ars W
    (fun W' x cs _ hb hK => n2_calls S nm c B D W' x cs ((hb.cell (p := ⟨B, 0, none⟩) (lt_of_cell hB)).trans hB) ((hb.cell (p := ⟨D, 0, none⟩) (lt_of_cell hD)).trans hD) hK) hT.ars hT.arsc
theorem made_rows (n : Nat) : madeCells (Value.slice none 0 0).cells n = (List.replicate n (Value.slice none 0 0)).toArray := by
  unfold madeCells
  apply Array.ext'
  rw [Array.toList_map]
  refine (List.eq_replicate_iff.2 ⟨by simp, fun b hb => ?_⟩)
  obtain ⟨x, _, rfl⟩ := List.mem_map.1 hb
  have e : x % (Value.slice none 0 0).cells.size = 0 := Nat.mod_one x
  rw [e]
  rfl
theorem infoRow : (Try.prog.info? 27).map (fun i => (i.zero, i.size, i.bytes)) = some (some (.slice none 0 0), 1, 24) := by kernel_rfl
theorem make_rows (n : Nat) (h : n ≤ 1000000) (w : World) : (Instr.makeSlice 46 (.int .i64 (n : Int)) (.int .i64 (n : Int))).run Try.prog w = .ok (.slice (some ⟨w.heap.size, 0, none⟩) n n) (w.alloc (.cells (List.replicate n (Value.slice none 0 0)).toArray 27)) := by
  obtain ⟨i0, hi, hz0, hz1, hz2⟩ := info_parts infoRow
  have := run_make (P := Try.prog) w 46 27 i0 _ Try.underlying46 hi hz0 .i64 .i64 (n : Int) (n : Int) (by omega) (Int.le_refl _) (by rw [hz2]; omega) (by omega)
  rw [hz1, Int.toNat_natCast, Nat.mul_one, made_rows] at this
  exact this
end Go.Proofs.Ythfomoigaoffgaa.Nd
