/- Walks of sort.Args. -/
import Derived.Test.YthfomoigaoffgaaNd4
import Derived.Test.YthfomoigaoffgaaSo15
namespace Go.Proofs.Ythfomoigaoffgaa.Nd
open Go Go.RowKit Go.Shelf Go.Proofs.Ythfomoigaoffgaa.K Go.Proofs.Ythfomoigaoffgaa.G Go.Proofs.Ythfomoigaoffgaa.Ix Go.Proofs.Ythfomoigaoffgaa.O Go.Proofs.Ythfomoigaoffgaa.So
set_option linter.unusedSimpArgs false
set_option linter.unusedVariables false

theorem args_any (ts : List Td) (t : ByteArray) : (args? ts t).isNone = !(ts.any (fun d => d.1 == t)) := by
  unfold args?
  rw [Option.isNone_map]
  induction ts with
  | nil => rfl
  | cons d r ih =>
    rw [List.find?_cons, List.any_cons]
    cases (d.1 == t) with
    | true => rfl
    | false => rw [Bool.false_or]; exact ih
/-- what Args returns -/
def ArgEnd (w : World) (R : List (List ByteArray) × Int) (e : Ending) (w' : World) : Prop :=
  ∃ A c, e = .returned (.tuple #[.slice A R.1.length c, .int .i64 R.2]) ∧ R.1.length ≤ c ∧ C (slice str) (fun _ => True) w' A R.1 ∧ Below w.heap.size w w'

set_option maxRecDepth 100000 in
set_option maxHeartbeats 4000000 in
theorem args_calls (S Ss : Nat → Prop) (r : Raw) (T : Thy) (t : ByteArray) (A : Option Addr) (c : Nat) (s : List ByteArray) (w : World) (hT : ThyR S w r T) (hs : Ch.ArsS T) (hC : C str Ss w A s) (hca : s.length ≤ c) (hl : s.length ≤ 25) (hss : ∀ x ∈ s, x.size ≤ maxLen) :
    Calls Try.prog 26 #[thyV r T, .string t, .slice A s.length c] w (ArgEnd w (argsB T.cls T.tys T.ars t s)) := by
  have HCk := Lib.hid (fun (W : World) (hb : Below w.heap.size w W) => Ch.Check_calls S r T W (hT.below hb) hs)
  have HAn := Lib.hid (fun (W : World) (hb : Below w.heap.size w W) B hB => tany_calls S r T t B W (hT.below hb) hB)
  have HNm := Lib.hid (fun (W : World) (hb : Below w.heap.size w W) L er hN => normal_any (L := L) (er := er) (hT.below hb) (hC.below hb) rfl hca hl hss hs.2.2 hN)
  have HNd := Lib.hid (fun (W : World) (hb : Below w.heap.size w W) hok A c L (hL : C str Any W A L) hl => needed_calls S Any r T t A c L W (hT.below hb) hok hL hl)
  have HLa := Lib.hid (fun W A c l hC hca => lany_calls Any A c l W hC hca)
  have HOk := Lib.hid (fun h => needOk_of (T := T) h hs)
  have hmf : ∀ (fn : Fn) (first cap : Array Value) (w : World), (Instr.makeFunc fn first cap).run Try.prog w = .ok (.func fn first cap) w := fun _ _ _ _ => rfl
  have hag := Try.isAgg29
  have hsz := Try.sizeOf29
  obtain ⟨W1, hW1⟩ : ∃ W1, (w.alloc (.cells (thyC r T) 29)).alloc (.cells #[.string t] 9) = W1 := ⟨_, rfl⟩
  have HB1 : Hid (NdB r T t w W1) := Lib.hid (by
    refine ⟨?_, ?_, ?_⟩
    · rw [← hW1]; exact (Below.heap_alloc _ _ _ (by simp)).trans (World.alloc_heap_new w _)
    · rw [← hW1]; exact cells_at _ _ _ _ 0 (by simp)
    · rw [← hW1]; exact ((Below.refl _ _).alloc (Nat.le_refl _) _).alloc (by simp) _)
  obtain ⟨z0, z1, z2, z3, z4, z5, z6⟩ := thy_cells HB1.out.thy
  generalize hRR : argsB T.cls T.tys T.ars t s = R
  unfold argsB at hRR
  rw [args_any] at hRR
  have HR := Lib.hid hRR
  clear hT hC hca hs hRR
  unfold thyV thyC at HCk HNm HNd
  unfold thyV
  unfold thyC at hW1 ⊢
  go_enter Try.func26, Try.ntmps26
  go_wp2_with fail
  refine (HCk.out _ HB1.out.below).mono ?_
  rintro e w2 ⟨rfl, hb2⟩
  have HB2 := Lib.hid (HB1.out.step hb2)
  clear hb2 hW1 z0 z1 z2 z3 z4 z5 z6 HB1
  obtain ⟨z0, z1, z2, z3, z4, z5, z6⟩ := thy_cells HB2.out.thy
  by_cases h1 : checkT T.cls T.tys T.ars = 0
  · have hok := HOk.out h1
    have hR := HR.out
    rw [if_neg (fun e => e h1)] at hR
    rw [h1]
    have HR := Lib.hid hR
    have HNd := Lib.hid (fun (W : World) (hb : Below w.heap.size w W) A c L hL hl => HNd.out W hb hok A c L hL hl)
    have HA2 := Lib.hid (HAn.out w2 HB2.out.below (w.heap.size + 1) HB2.out.nm)
    generalize (T.tys.any fun d => d.1 == t) = X at HA2 HR
    clear h1 hok hR
    go_wp2_with fail
    refine HA2.out.mono ?_
    rintro e w3 ⟨rfl, hb3⟩
    have HB3 := Lib.hid (HB2.out.step hb3)
    clear hb3 z0 z1 z2 z3 z4 z5 z6 HB2 HA2
    obtain ⟨z0, z1, z2, z3, z4, z5, z6⟩ := thy_cells HB3.out.thy
    cases X with
    | false =>
      obtain rfl : (([], 9) : List (List ByteArray) × Int) = R := HR.out
      clear HR
      go_wp2
      go_ret2
      exact ⟨none, 0, rfl, Nat.le_refl _, C.nil .., HB3.out.below⟩
    | true =>
      obtain ⟨⟨N, en⟩, hN⟩ : ∃ p, normB T.cls s = p := ⟨_, rfl⟩
      have hR : (if en ≠ 0 then ([], en) else match needB T.cls T.tys T.ars t N with
        | none => ([], 14)
        | some l => if l.any (fun x => decide (20 < x.length)) then ([], 5) else (l, 0)) = R := by have := HR.out; rw [hN] at this; exact this
      have hNl : N.length ≤ 25 := by have := (norm_small hN hss).2; omega
      have HN3 := Lib.hid (HNm.out w3 HB3.out.below N en hN)
      have HR := Lib.hid hR
      clear hR hN HNm
      go_wp2_with fail
      refine HN3.out.mono ?_
      rintro e w4 ⟨A4, c4, rfl, hC4, hc4, hb4⟩
      have HB4 := Lib.hid (HB3.out.step hb4)
      have HC4 := Lib.hid hC4
      clear hb4 z0 z1 z2 z3 z4 z5 z6 HB3 HN3 hC4
      obtain ⟨z0, z1, z2, z3, z4, z5, z6⟩ := thy_cells HB4.out.thy
      have y1 := HB4.out.nm
      by_cases he : en = 0
      · subst he
        have hR := HR.out
        rw [if_neg (by decide)] at hR
        have HD4 := Lib.hid (HNd.out w4 HB4.out.below A4 c4 N HC4.out hNl)
        generalize needB T.cls T.tys T.ars t N = D at HD4 hR
        have HR := Lib.hid hR
        clear hR HNd
        go_wp2_with fail
        refine HD4.out.mono ?_
        rintro e w5 ⟨he5, hb5⟩
        have HB5 := Lib.hid (HB4.out.step hb5)
        clear hb5 z0 z1 z2 z3 z4 z5 z6 y1 HB4 HD4 HC4
        cases D with
        | none =>
          obtain rfl := he5
          obtain rfl : (([], 14) : List (List ByteArray) × Int) = R := HR.out
          clear HR
          go_wp2
          go_ret2
          exact ⟨none, 0, rfl, Nat.le_refl _, C.nil .., HB5.out.below⟩
        | some l =>
          obtain ⟨g, rfl, hg, hCl⟩ := he5
          have HL := Lib.hid (HLa.out w5 (some ⟨g, 0, none⟩) l.length l hCl (Nat.le_refl _))
          have HCl := Lib.hid hCl
          have hR : (if (l.any (fun x => decide (20 < x.length))) = true then (([], 5) : List (List ByteArray) × Int) else (l, 0)) = R := HR.out
          generalize (l.any fun x => decide (20 < x.length)) = Y at HL hR
          have HR := Lib.hid hR
          clear hCl hR hg
          go_wp2_with fail
          refine HL.out.mono ?_
          rintro e w6 ⟨rfl, hb6⟩
          have HB6 := Lib.hid (HB5.out.step hb6)
          have HC6 := Lib.hid (HCl.out.below hb6)
          clear hb6 HL HCl
          cases Y with
          | true =>
            obtain rfl : (([], 5) : List (List ByteArray) × Int) = R := HR.out
            clear HR
            go_wp2
            go_ret2
            exact ⟨none, 0, rfl, Nat.le_refl _, C.nil .., HB6.out.below⟩
          | false =>
            obtain rfl : (l, 0) = R := HR.out
            clear HR
            go_wp2
            go_ret2
            exact ⟨some ⟨g, 0, none⟩, l.length, rfl, Nat.le_refl _, HC6.out, HB6.out.below⟩
      · have hR := HR.out
        rw [if_pos he] at hR
        subst hR
        have gE : (en != 0) = true := bne_iff_ne.2 he
        clear he HR
        go_wp2
        go_ret2
        exact ⟨none, 0, rfl, Nat.le_refl _, C.nil .., HB4.out.below⟩
  · have hR := HR.out
    rw [if_pos h1] at hR
    generalize checkT T.cls T.tys T.ars = E at h1 hR
    subst hR
    have gE : (E != 0) = true := bne_iff_ne.2 h1
    clear h1 HR
    go_wp2
    go_ret2
    exact ⟨none, 0, rfl, Nat.le_refl _, C.nil .., HB2.out.below⟩
end Go.Proofs.Ythfomoigaoffgaa.Nd
