/- Walks of sort.Args: what a right theory gives. -/
import Derived.Test.YthfomoigaoffgaaNd3
import Derived.Test.YthfomoigaoffgaaSo13
namespace Go.Proofs.Ythfomoigaoffgaa.Nd
open Go Go.RowKit Go.Shelf Go.Proofs.Ythfomoigaoffgaa.K Go.Proofs.Ythfomoigaoffgaa.G Go.Proofs.Ythfomoigaoffgaa.Ix Go.Proofs.Ythfomoigaoffgaa.O Go.Proofs.Ythfomoigaoffgaa.So
set_option linter.unusedSimpArgs false
set_option linter.unusedVariables false

theorem ctE_ok : ∀ {ts : List Td} {met : List ByteArray}, ctE met ts = 0 → ∀ d ∈ ts, 0 ≤ d.2 ∧ d.2 ≤ 10
  | [], _, _ => fun d h => absurd h List.not_mem_nil
  | e :: r, met, h => by
    rw [ctE] at h
    by_cases h1 : nameB e.1 = true
    · rw [if_pos h1] at h
      by_cases h2 : met.contains e.1 = true
      · rw [if_pos h2] at h; exact absurd h (by decide)
      · rw [if_neg h2] at h
        by_cases h3 : e.2 < 0 ∨ 10 < e.2
        · rw [if_pos h3] at h; exact absurd h (by decide)
        · rw [if_neg h3] at h
          intro d hd
          rcases List.mem_cons.1 hd with rfl | hd
          · omega
          · exact ctE_ok h d hd
    · rw [if_neg h1] at h; exact absurd h (by decide)
theorem sortsX_len {cs : List Cl} : ∀ {l : List (List ByteArray)}, sortsX cs l = 0 → ∀ s ∈ l, s.length ≤ 20
  | [], _ => fun s h => absurd h List.not_mem_nil
  | x :: r, h => by
    rw [sortsX] at h
    by_cases h1 : sortE cs x = 0
    · rw [if_neg (fun e => e h1)] at h
      intro s hs
      rcases List.mem_cons.1 hs with rfl | hs
      · unfold sortE at h1
        by_cases h2 : 20 < s.length
        · rw [if_pos h2] at h1; exact absurd h1 (by decide)
        · omega
      · exact sortsX_len h s hs
    · rw [if_pos h1] at h; exact absurd h h1
theorem oneE_sorts {cs : List Cl} {ts : List Td} {met : List (ByteArray × ByteArray)} {a : Arx} (h : oneE cs ts met a = 0) : sortsX cs a.2.2 = 0 := by
  unfold oneE at h
  cases hn : args? ts a.1 with
  | none => rw [hn] at h; exact absurd (show (9 : Int) = 0 from h) (by decide)
  | some n =>
    rw [hn] at h
    replace h : (if has cs a.2.1 then (if met.contains (a.1, a.2.1) then 10 else if (a.2.2.length : Int) ≠ n then 5 else sortsX cs a.2.2) else 9) = 0 := h
    by_cases h1 : has cs a.2.1 = true
    · rw [if_pos h1] at h
      by_cases h2 : met.contains (a.1, a.2.1) = true
      · rw [if_pos h2] at h; exact absurd h (by decide)
      · rw [if_neg h2] at h
        by_cases h3 : (a.2.2.length : Int) = n
        · rw [if_neg (fun e => e h3)] at h; exact h
        · rw [if_pos h3] at h; exact absurd h (by decide)
    · rw [if_neg h1] at h; exact absurd h (by decide)
theorem arE_sorts {cs : List Cl} {ts : List Td} : ∀ {ars : List Arx} {met : List (ByteArray × ByteArray)}, arE cs ts met ars = 0 → ∀ a ∈ ars, sortsX cs a.2.2 = 0
  | [], _, _ => fun a h => absurd h List.not_mem_nil
  | d :: r, met, h => by
    rw [arE_one] at h
    by_cases h1 : oneE cs ts met d = 0
    · rw [if_neg (fun e => e h1)] at h
      intro a ha
      rcases List.mem_cons.1 ha with rfl | ha
      · exact oneE_sorts h1
      · exact arE_sorts h a ha
    · rw [if_pos h1] at h; exact absurd h h1
/-- what a right theory gives, part by part -/
theorem check_parts {cs : List Cl} {ts : List Td} {ars : List Arx} (h : checkT cs ts ars = 0) : classesE cs = 0 ∧ ctE [] ts = 0 ∧ arE cs ts [] ars = 0 ∧ ars.all (regB cs ars) = true := by
  unfold checkT at h
  by_cases h1 : classesE cs = 0
  · rw [if_neg (fun e => e h1)] at h
    by_cases h2 : constrE ts = 0
    · rw [if_neg (fun e => e h2)] at h
      unfold aritiesE at h
      by_cases h3 : 300 < ars.length
      · rw [if_pos h3] at h; exact absurd h (by decide)
      · rw [if_neg h3] at h
        by_cases h4 : arE cs ts [] ars = 0
        · rw [if_neg (fun e => e h4)] at h
          refine ⟨h1, ?_, h4, ?_⟩
          · unfold constrE at h2
            by_cases h5 : 300 < ts.length
            · rw [if_pos h5] at h2; exact absurd h2 (by decide)
            · rw [if_neg h5] at h2; exact h2
          · cases hr : ars.all (regB cs ars) with
            | true => rfl
            | false => rw [hr, if_neg (by decide)] at h; exact absurd h (by decide)
        · rw [if_pos h4] at h; exact absurd h h4
    · rw [if_pos h2] at h; exact absurd h h2
  · rw [if_pos h1] at h; exact absurd h h1
theorem needOk_of {T : Thy} (h : checkT T.cls T.tys T.ars = 0) (hs : Ch.ArsS T) : NeedOk T := by
  obtain ⟨_, h2, h3, _⟩ := check_parts h
  refine ⟨hs.2.2, ctE_ok h2, fun a ha n e => ?_, fun a ha x hx => ⟨sortsX_len (arE_sorts h3 a ha) x hx, ((hs.2.1 a ha).2.2.2 x hx).2⟩⟩
  obtain ⟨m, e1, e2⟩ := Ch.arE_len h3 a ha
  rw [e] at e1
  cases e1
  exact e2

/-- the search of Args for a constructor -/
theorem a1_calls (S : Nat → Prop) (nm : ByteArray) (B : Nat) (W : World) (x : Td) (cs : List Value) (hB : W.cell? ⟨B, 0, none⟩ = some (.string nm)) (hK : kTd.K S W x cs) :
    Calls Try.prog 56 #[aggV cs, .pointer (some ⟨B, 0, none⟩)] W fun e W' => e = .returned (.bool (x.1 == nm)) ∧ Below W.heap.size W W' := by
  obtain rfl := kTd_open hK
  have hB' := (cell_old W (.cells #[.string x.1, .int .i64 x.2] 81) B 0 (lt_of_cell hB)).trans hB
  have HE := Lib.hid (str_eq x.1 nm)
  unfold aggV
  clear hK hB
  go_enter Try.func56, Try.ntmps56
  go_wp2
  go_ret
  exact ⟨by rw [HE.out]; rfl, (Below.refl _ _).alloc (Nat.le_refl _) _⟩
theorem tany_calls (S : Nat → Prop) (r : Raw) (T : Thy) (nm : ByteArray) (B : Nat) (W : World) (hT : ThyR S W r T) (hB : W.cell? ⟨B, 0, none⟩ = some (.string nm)) :
    Calls Try.prog 55 #[.slice r.a2 T.tys.length r.c2, .func (.func 56) #[] #[.pointer (some ⟨B, 0, none⟩)]] W fun e W' => e = .returned (.bool (T.tys.any (fun d => d.1 == nm))) ∧ Below W.heap.size W W' :=
  ContainsFunc_apiTypeDecl kTd S Try.sizeOf81 (fun d => d.1 == nm) 56 #[.pointer (some ⟨B, 0, none⟩)] (enters_of Try.func56 (by kernel_rfl) rfl) r.a2 r.c2 T.tys W
    (fun W' x cs _ hb hK => a1_calls S nm B W' x cs ((hb.cell (p := ⟨B, 0, none⟩) (lt_of_cell hB)).trans hB) hK) hT.tys hT.tysc
theorem a2_calls (S : Nat → Prop) (W : World) (x : List ByteArray) (cs : List Value) (hK : (slice str).K S W x cs) :
    Calls Try.prog 58 #[oneV cs] W fun e W' => e = .returned (.bool (decide (20 < x.length))) ∧ Below W.heap.size W W' := by
  obtain ⟨A, c, rfl, hl, hC⟩ := hK
  have hm : x.length ≤ 9223372036854775807 := hC.len
  unfold oneV
  by_cases h : 20 < x.length
  · have g : (20 : Int) < (x.length : Int) := by omega
    rw [decide_eq_true h]
    go_enter Try.func58, Try.ntmps58
    go_wp2
    go_ret
    exact ⟨by simp [g, h], Below.refl _ _⟩
  · have g : ¬ (20 : Int) < (x.length : Int) := by omega
    rw [decide_eq_false h]
    go_enter Try.func58, Try.ntmps58
    go_wp2
    go_ret
    exact ⟨by simp [g, h], Below.refl _ _⟩
theorem lany_calls (S : Nat → Prop) (A : Option Addr) (c : Nat) (ss : List (List ByteArray)) (w : World) (hC : C (slice str) S w A ss) (hca : ss.length ≤ c) :
    Calls Try.prog 28 #[.slice A ss.length c, .func (.func 58) #[] #[]] w fun e w' => e = .returned (.bool (ss.any fun s => decide (20 < s.length))) ∧ Below w.heap.size w w' :=
  ContainsFunc_lstring (slice str) S rfl (fun s => decide (20 < s.length)) 58 #[] (enters_of Try.func58 (by kernel_rfl) rfl) A c ss w (fun W' x cs hx hb hK => a2_calls S W' x cs hK) hC hca
end Go.Proofs.Ythfomoigaoffgaa.Nd
