/- Walks of sort.Args: what a right theory gives. -/
import Derived.Test.YthfomoigaoffgaaGreatNd13
import Derived.Test.YthfomoigaoffgaaGreatSo15x
namespace Go.Proofs.YthfomoigaoffgaaGreat.Nd
open Go Go.RowKit Go.Shelf Go.Proofs.YthfomoigaoffgaaGreat.K Go.Proofs.YthfomoigaoffgaaGreat.G Go.Proofs.YthfomoigaoffgaaGreat.Ix Go.Proofs.YthfomoigaoffgaaGreat.O Go.Proofs.YthfomoigaoffgaaGreat.So
set_option linter.unusedSimpArgs false
set_option linter.unusedVariables false

theorem ctE_ok : ∀ {ts : List Td} {met : List ByteArray}, ctE met ts = 0 → ∀ d ∈ ts, 0 ≤ d.2 ∧ d.2 ≤ 10
  | [], _, _ => fun d h => absurd h List.not_mem_nil
  | e :: r, met, h => by
    rw [ctE] at h
    by_cases h1 : nameB e.1 = true
    · rw [if_pos h1] at h
      by_cases h2 : met.contains e.1 = true
      · rw [if_pos h2] at h; exact absurd h (by decide)
      · rw [if_neg h2] at h
        by_cases h3 : e.2 < 0 ∨ 10 < e.2
        · rw [if_pos h3] at h; exact absurd h (by decide)
        · rw [if_neg h3] at h
          intro d hd
          rcases List.mem_cons.1 hd with rfl | hd
          · omega
          · exact ctE_ok h d hd
    · rw [if_neg h1] at h; exact absurd h (by decide)
theorem sortsX_len {cs : List Cl} : ∀ {l : List (List ByteArray)}, sortsX cs l = 0 → ∀ s ∈ l, s.length ≤ 20
  | [], _ => fun s h => absurd h List.not_mem_nil
  | x :: r, h => by
    rw [sortsX] at h
    by_cases h1 : sortE cs x = 0
    · rw [if_neg (fun e => e h1)] at h
      intro s hs
      rcases List.mem_cons.1 hs with rfl | hs
      · unfold sortE at h1
        by_cases h2 : 20 < s.length
        · rw [if_pos h2] at h1; exact absurd h1 (by decide)
        · omega
      · exact sortsX_len h s hs
    · rw [if_pos h1] at h; exact absurd h h1
theorem oneE_sorts {cs : List Cl} {ts : List Td} {met : List (ByteArray × ByteArray)} {a : Arx} (h : oneE cs ts met a = 0) : sortsX cs a.2.2 = 0 := by
  unfold oneE at h
  cases hn : args? ts a.1 with
  | none => rw [hn] at h; exact absurd (show (9 : Int) = 0 from h) (by decide)
  | some n =>
    rw [hn] at h
    replace h : (if has cs a.2.1 then (if met.contains (a.1, a.2.1) then 10 else if (a.2.2.length : Int) ≠ n then 5 else sortsX cs a.2.2) else 9) = 0 := h
    by_cases h1 : has cs a.2.1 = true
    · rw [if_pos h1] at h
      by_cases h2 : met.contains (a.1, a.2.1) = true
      · rw [if_pos h2] at h; exact absurd h (by decide)
      · rw [if_neg h2] at h
        by_cases h3 : (a.2.2.length : Int) = n
        · rw [if_neg (fun e => e h3)] at h; exact h
        · rw [if_pos h3] at h; exact absurd h (by decide)
    · rw [if_neg h1] at h; exact absurd h (by decide)
theorem arE_sorts {cs : List Cl} {ts : List Td} : ∀ {ars : List Arx} {met : List (ByteArray × ByteArray)}, arE cs ts met ars = 0 → ∀ a ∈ ars, sortsX cs a.2.2 = 0
  | [], _, _ => fun a h => absurd h List.not_mem_nil
  | d :: r, met, h => by
    rw [arE_one] at h
    by_cases h1 : oneE cs ts met d = 0
    · rw [if_neg (fun e => e h1)] at h
      intro a ha
      rcases List.mem_cons.1 ha with rfl | ha
      · exact oneE_sorts h1
      · exact arE_sorts h a ha
    · rw [if_pos h1] at h; exact absurd h h1
/-- what a right theory gives, part by part -/
theorem check_parts {cs : List Cl} {ts : List Td} {ars : List Arx} (h : checkT cs ts ars = 0) : classesE cs = 0 ∧ ctE [] ts = 0 ∧ arE cs ts [] ars = 0 ∧ ars.all (regB cs ars) = true := by
  unfold checkT at h
  by_cases h1 : classesE cs = 0
  · rw [if_neg (fun e => e h1)] at h
    by_cases h2 : constrE ts = 0
    · rw [if_neg (fun e => e h2)] at h
      unfold aritiesE at h
      by_cases h3 : 300 < ars.length
      · rw [if_pos h3] at h; exact absurd h (by decide)
      · rw [if_neg h3] at h
        by_cases h4 : arE cs ts [] ars = 0
        · rw [if_neg (fun e => e h4)] at h
          refine ⟨h1, ?_, h4, ?_⟩
          · unfold constrE at h2
            by_cases h5 : 300 < ts.length
            · rw [if_pos h5] at h2; exact absurd h2 (by decide)
            · rw [if_neg h5] at h2; exact h2
          · cases hr : ars.all (regB cs ars) with
            | true => rfl
            | false => rw [hr, if_neg (by decide)] at h; exact absurd h (by decide)
        · rw [if_pos h4] at h; exact absurd h h4
    · rw [if_pos h2] at h; exact absurd h h2
  · rw [if_pos h1] at h; exact absurd h h1
theorem needOk_of {T : Thy} (h : checkT T.cls T.tys T.ars = 0) (hs : Ch.ArsS T) : NeedOk T := by
  obtain ⟨_, h2, h3, _⟩ := check_parts h
  refine ⟨hs.2.2, ctE_ok h2, fun a ha n e => ?_, fun a ha x hx => ⟨sortsX_len (arE_sorts h3 a ha) x hx, ((hs.2.1 a ha).2.2.2 x hx).2⟩⟩
  obtain ⟨m, e1, e2⟩ := Ch.arE_len h3 a ha
  rw [e] at e1
  cases e1
  exact e2

/-- the search of Args for a constructor -/
theorem a1_calls (S : Nat → Prop) (nm : ByteArray) (B : Nat) (W : World) (x : Td) (cs : List Value) (hB : W.cell? ⟨B, 0, none⟩ = some (.string nm)) (hK : kTd.K S W x cs) :
    Calls Tryz.prog 21 #[aggV cs, .pointer (some ⟨B, 0, none⟩)] W fun e W' => e = .returned (.bool (x.1 == nm)) ∧ Below W.heap.size W W' := by
  obtain rfl := kTd_open hK
  have hB' := (cell_old W (.cells #[.string x.1, .int .i64 x.2] 54) B 0 (lt_of_cell hB)).trans hB
  have HE := Lib.hid (str_eq x.1 nm)
  unfold aggV
  clear hK hB
  go_enter Tryz.func21, Tryz.ntmps21
  go_wp2
  go_ret
  exact ⟨by rw [HE.out]; rfl, (Below.refl _ _).alloc (Nat.le_refl _) _⟩
theorem tany_calls (S : Nat → Prop) (r : Raw) (T : Thy) (nm : ByteArray) (B : Nat) (W : World) (hT : ThyR S W r T) (hB : W.cell? ⟨B, 0, none⟩ = some (.string nm)) :
    Calls Tryz.prog 20 #[.slice r.a2 T.tys.length r.c2, .func (.func 21) #[] #[.pointer (some ⟨B, 0, none⟩)]] W fun e W' => e = .returned (.bool (T.tys.any (fun d => d.1 == nm))) ∧ Below W.heap.size W W' :=
  ContainsFunc_apiTypeDecl kTd S Tryz.sizeOf54 (fun d => d.1 == nm) 21 #[.pointer (some ⟨B, 0, none⟩)] (enters_of Tryz.func21 (by kernel_rfl) rfl) r.a2 r.c2 T.tys W
    (fun W' x cs _ hb hK => a1_calls S nm B W' x cs ((hb.cell (p := ⟨B, 0, none⟩) (lt_of_cell hB)).trans hB) hK) hT.tys hT.tysc
theorem a2_calls (S : Nat → Prop) (W : World) (x : List ByteArray) (cs : List Value) (hK : (slice str).K S W x cs) :
    Calls Tryz.prog 23 #[oneV cs] W fun e W' => e = .returned (.bool (decide (20 < x.length))) ∧ Below W.heap.size W W' := by
  obtain ⟨A, c, rfl, hl, hC⟩ := hK
  have hm : x.length ≤ 9223372036854775807 := hC.len
  unfold oneV
  by_cases h : 20 < x.length
  · have g : (20 : Int) < (x.length : Int) := by omega
    rw [decide_eq_true h]
    go_enter Tryz.func23, Tryz.ntmps23
    go_wp2
    go_ret
    exact ⟨by simp [g, h], Below.refl _ _⟩
  · have g : ¬ (20 : Int) < (x.length : Int) := by omega
    rw [decide_eq_false h]
    go_enter Tryz.func23, Tryz.ntmps23
    go_wp2
    go_ret
    exact ⟨by simp [g, h], Below.refl _ _⟩
theorem lany_calls (S : Nat → Prop) (A : Option Addr) (c : Nat) (ss : List (List ByteArray)) (w : World) (hC : C (slice str) S w A ss) (hca : ss.length ≤ c) :
    Calls Tryz.prog 15 #[.slice A ss.length c, .func (.func 23) #[] #[]] w fun e w' => e = .returned (.bool (ss.any fun s => decide (20 < s.length))) ∧ Below w.heap.size w w' :=
  ContainsFunc_lstring (slice str) S rfl (fun s => decide (20 < s.length)) 23 #[] (enters_of Tryz.func23 (by kernel_rfl) rfl) A c ss w (fun W' x cs hx hb hK => a2_calls S W' x cs hK) hC hca
end Go.Proofs.YthfomoigaoffgaaGreat.Nd
namespace Go.Proofs.YthfomoigaoffgaaGreat.Nd
open Go Go.RowKit Go.Shelf Go.Proofs.YthfomoigaoffgaaGreat.K Go.Proofs.YthfomoigaoffgaaGreat.G Go.Proofs.YthfomoigaoffgaaGreat.Ix Go.Proofs.YthfomoigaoffgaaGreat.O Go.Proofs.YthfomoigaoffgaaGreat.So
set_option linter.unusedSimpArgs false
set_option linter.unusedVariables false

theorem args_any (ts : List Td) (t : ByteArray) : (args? ts t).isNone = !(ts.any (fun d => d.1 == t)) := by
  unfold args?
  rw [Option.isNone_map]
  induction ts with
  | nil => rfl
  | cons d r ih =>
    rw [List.find?_cons, List.any_cons]
    cases (d.1 == t) with
    | true => rfl
    | false => rw [Bool.false_or]; exact ih
/-- what Args returns -/
def ArgEnd (w : World) (R : List (List ByteArray) × Int) (e : Ending) (w' : World) : Prop :=
  ∃ A c, e = .returned (.tuple #[.slice A R.1.length c, .int .i64 R.2]) ∧ R.1.length ≤ c ∧ C (slice str) (fun _ => True) w' A R.1 ∧ Below w.heap.size w w'

set_option maxRecDepth 100000 in
set_option maxHeartbeats 4000000 in
theorem args_calls (S Ss : Nat → Prop) (r : Raw) (T : Thy) (t : ByteArray) (A : Option Addr) (c : Nat) (s : List ByteArray) (w : World) (hT : ThyR S w r T) (hs : Ch.ArsS T) (hC : C str Ss w A s) (hca : s.length ≤ c) (hl : s.length ≤ 25) (hss : ∀ x ∈ s, x.size ≤ maxLen) :
    Calls Tryz.prog 8 #[thyV r T, .string t, .slice A s.length c] w (ArgEnd w (argsB T.cls T.tys T.ars t s)) := by
  have HCk := Lib.hid (fun (W : World) (hb : Below w.heap.size w W) => Ch.Check_calls S r T W (hT.below hb) hs)
  have HAn := Lib.hid (fun (W : World) (hb : Below w.heap.size w W) B hB => tany_calls S r T t B W (hT.below hb) hB)
  have HNm := Lib.hid (fun (W : World) (hb : Below w.heap.size w W) L er hN => normal_any (L := L) (er := er) (hT.below hb) (hC.below hb) rfl hca hl hss hs.2.2 hN)
  have HNd := Lib.hid (fun (W : World) (hb : Below w.heap.size w W) hok A c L (hL : C str Any W A L) hl => needed_calls S Any r T t A c L W (hT.below hb) hok hL hl)
  have HLa := Lib.hid (fun W A c l hC hca => lany_calls Any A c l W hC hca)
  have HOk := Lib.hid (fun h => needOk_of (T := T) h hs)
  have hmf : ∀ (fn : Fn) (first cap : Array Value) (w : World), (Instr.makeFunc fn first cap).run Tryz.prog w = .ok (.func fn first cap) w := fun _ _ _ _ => rfl
  have hag := Tryz.isAgg29
  have hsz := Tryz.sizeOf29
  obtain ⟨W1, hW1⟩ : ∃ W1, (w.alloc (.cells (thyC r T) 29)).alloc (.cells #[.string t] 9) = W1 := ⟨_, rfl⟩
  have HB1 : Hid (NdB r T t w W1) := Lib.hid (by
    refine ⟨?_, ?_, ?_⟩
    · rw [← hW1]; exact (Below.heap_alloc _ _ _ (by simp)).trans (World.alloc_heap_new w _)
    · rw [← hW1]; exact cells_at _ _ _ _ 0 (by simp)
    · rw [← hW1]; exact ((Below.refl _ _).alloc (Nat.le_refl _) _).alloc (by simp) _)
  obtain ⟨z0, z1, z2, z3, z4, z5, z6⟩ := thy_cells HB1.out.thy
  generalize hRR : argsB T.cls T.tys T.ars t s = R
  unfold argsB at hRR
  rw [args_any] at hRR
  have HR := Lib.hid hRR
  clear hT hC hca hs hRR
  unfold thyV thyC at HCk HNm HNd
  unfold thyV
  unfold thyC at hW1 ⊢
  go_enter Tryz.func8, Tryz.ntmps8
  go_wp2_with fail
  refine (HCk.out _ HB1.out.below).mono ?_
  rintro e w2 ⟨rfl, hb2⟩
  have HB2 := Lib.hid (HB1.out.step hb2)
  clear hb2 hW1 z0 z1 z2 z3 z4 z5 z6 HB1
  obtain ⟨z0, z1, z2, z3, z4, z5, z6⟩ := thy_cells HB2.out.thy
  by_cases h1 : checkT T.cls T.tys T.ars = 0
  · have hok := HOk.out h1
    have hR := HR.out
    rw [if_neg (fun e => e h1)] at hR
    rw [h1]
    have HR := Lib.hid hR
    have HNd := Lib.hid (fun (W : World) (hb : Below w.heap.size w W) A c L hL hl => HNd.out W hb hok A c L hL hl)
    have HA2 := Lib.hid (HAn.out w2 HB2.out.below (w.heap.size + 1) HB2.out.nm)
    generalize (T.tys.any fun d => d.1 == t) = X at HA2 HR
    clear h1 hok hR
    go_wp2_with fail
    refine HA2.out.mono ?_
    rintro e w3 ⟨rfl, hb3⟩
    have HB3 := Lib.hid (HB2.out.step hb3)
    clear hb3 z0 z1 z2 z3 z4 z5 z6 HB2 HA2
    obtain ⟨z0, z1, z2, z3, z4, z5, z6⟩ := thy_cells HB3.out.thy
    cases X with
    | false =>
      obtain rfl : (([], 9) : List (List ByteArray) × Int) = R := HR.out
      clear HR
      go_wp2
      go_ret2
      exact ⟨none, 0, rfl, Nat.le_refl _, C.nil .., HB3.out.below⟩
    | true =>
      obtain ⟨⟨N, en⟩, hN⟩ : ∃ p, normB T.cls s = p := ⟨_, rfl⟩
      have hR : (if en ≠ 0 then ([], en) else match needB T.cls T.tys T.ars t N with
        | none => ([], 14)
        | some l => if l.any (fun x => decide (20 < x.length)) then ([], 5) else (l, 0)) = R := by have := HR.out; rw [hN] at this; exact this
      have hNl : N.length ≤ 25 := by have := (norm_small hN hss).2; omega
      have HN3 := Lib.hid (HNm.out w3 HB3.out.below N en hN)
      have HR := Lib.hid hR
      clear hR hN HNm
      go_wp2_with fail
      refine HN3.out.mono ?_
      rintro e w4 ⟨A4, c4, rfl, hC4, hc4, hb4⟩
      have HB4 := Lib.hid (HB3.out.step hb4)
      have HC4 := Lib.hid hC4
      clear hb4 z0 z1 z2 z3 z4 z5 z6 HB3 HN3 hC4
      obtain ⟨z0, z1, z2, z3, z4, z5, z6⟩ := thy_cells HB4.out.thy
      have y1 := HB4.out.nm
      by_cases he : en = 0
      · subst he
        have hR := HR.out
        rw [if_neg (by decide)] at hR
        have HD4 := Lib.hid (HNd.out w4 HB4.out.below A4 c4 N HC4.out hNl)
        generalize needB T.cls T.tys T.ars t N = D at HD4 hR
        have HR := Lib.hid hR
        clear hR HNd
        go_wp2_with fail
        refine HD4.out.mono ?_
        rintro e w5 ⟨he5, hb5⟩
        have HB5 := Lib.hid (HB4.out.step hb5)
        clear hb5 z0 z1 z2 z3 z4 z5 z6 y1 HB4 HD4 HC4
        cases D with
        | none =>
          obtain rfl := he5
          obtain rfl : (([], 14) : List (List ByteArray) × Int) = R := HR.out
          clear HR
          go_wp2
          go_ret2
          exact ⟨none, 0, rfl, Nat.le_refl _, C.nil .., HB5.out.below⟩
        | some l =>
          obtain ⟨g, rfl, hg, hCl⟩ := he5
          have HL := Lib.hid (HLa.out w5 (some ⟨g, 0, none⟩) l.length l hCl (Nat.le_refl _))
          have HCl := Lib.hid hCl
          have hR : (if (l.any (fun x => decide (20 < x.length))) = true then (([], 5) : List (List ByteArray) × Int) else (l, 0)) = R := HR.out
          generalize (l.any fun x => decide (20 < x.length)) = Y at HL hR
          have HR := Lib.hid hR
          clear hCl hR hg
          go_wp2_with fail
          refine HL.out.mono ?_
          rintro e w6 ⟨rfl, hb6⟩
          have HB6 := Lib.hid (HB5.out.step hb6)
          have HC6 := Lib.hid (HCl.out.below hb6)
          clear hb6 HL HCl
          cases Y with
          | true =>
            obtain rfl : (([], 5) : List (List ByteArray) × Int) = R := HR.out
            clear HR
            go_wp2
            go_ret2
            exact ⟨none, 0, rfl, Nat.le_refl _, C.nil .., HB6.out.below⟩
          | false =>
            obtain rfl : (l, 0) = R := HR.out
            clear HR
            go_wp2
            go_ret2
            exact ⟨some ⟨g, 0, none⟩, l.length, rfl, Nat.le_refl _, HC6.out, HB6.out.below⟩
      · have hR := HR.out
        rw [if_pos he] at hR
        subst hR
        have gE : (en != 0) = true := bne_iff_ne.2 he
        clear he HR
        go_wp2
        go_ret2
        exact ⟨none, 0, rfl, Nat.le_refl _, C.nil .., HB4.out.below⟩
  · have hR := HR.out
    rw [if_pos h1] at hR
    generalize checkT T.cls T.tys T.ars = E at h1 hR
    subst hR
    have gE : (E != 0) = true := bne_iff_ne.2 h1
    clear h1 HR
    go_wp2
    go_ret2
    exact ⟨none, 0, rfl, Nat.le_refl _, C.nil .., HB2.out.below⟩
end Go.Proofs.YthfomoigaoffgaaGreat.Nd
