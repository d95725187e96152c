/- Walks: Scan; whether keywords and a text are few; whether the scanner answers at all. -/
import Derived.Test.YtmkfeanggmjhmaaS10
import Derived.Test.YtmkfeanggmjhmaaS7
namespace Go.Proofs.Ytmkfeanggmjhmaa.S
open Go Go.RowKit Go.Shelf Go.Proofs.YtmkfeanggmjhmaaW.PrintWords Go.Proofs.YtmkfeanggmjhmaaW.PrintLast Go.Proofs.YtmkfeanggmjhmaaW.PrintMore
open Go.Proofs.Ytmkfeanggmjhmaa.M Go.Proofs.Ytmkfeanggmjhmaa.K
set_option linter.unusedSimpArgs false
set_option linter.unusedVariables false

/-- the keywords as a set -/
def kwp (l : List ByteArray) (t : List UInt8) : Bool := l.any (fun x => t == x.data.toList)
/-- what Scan returns: tokens, a place, an error -/
def scanAll (l : List ByteArray) (s : ByteArray) : List Tok × Nat × Int :=
  if checkE l ≠ 0 then ([], 0, checkE l) else if 40000 < s.size then ([], 0, 7) else
    match scanE (kwp l) s with
    | (xs, none) => (xs, 0, 0)
    | (_, some (q, c)) => ([], q, c)

def TokRow (w : World) (base : Nat) (v : Value) (xs : List Tok) : Prop := w.ownsRow base 36 3 v xs.length (xs.flatMap tokCells)

theorem TokRow.nil (w : World) (base : Nat) : TokRow w base (.slice none 0 0) [] := World.ownsRow_nil _ _ _ _
def ScanAllEnd (R : List Tok × Nat × Int) (w : World) (r : Ending) (w' : World) : Prop :=
  ∃ v, r = .returned (.tuple #[v, .int .i64 R.2.1, .int .i64 R.2.2]) ∧ TokRow w' w.heap.size v R.1 ∧ Below w.heap.size w w'

set_option maxHeartbeats 1000000 in
theorem Scan_calls (A : Option Addr) (c : Nat) (l : List ByteArray) (hl : ∀ x ∈ l, x.size ≤ 1000000000000) (hc : l.length ≤ c) (s : ByteArray) (w : World) (hr : Kd.C Kd.string w A l.length l) :
    Calls Try.prog 10 #[.slice A l.length c, .string s] w (ScanAllEnd (scanAll l s) w) := by
  have HW := Lib.hid (words_calls A c l hl hc w hr)
  clear hl hc hr
  generalize hR : scanAll l s = R
  unfold scanAll at hR
  unfold WordsEnd at HW
  generalize hE : checkE l = E at HW hR
  clear hE
  by_cases hE0 : E = 0
  · subst hE0
    rw [if_neg (by decide)] at hR
    by_cases hbig : 40000 < s.size
    · rw [if_pos hbig] at hR
      subst hR
      have g : (40000 : Int) < (s.size : Int) := by omega
      clear hbig
      go_enter Try.func10, Try.ntmps10
      go_wp2_with (go_at_call 21; refine HW.out.mono ?_; rintro e w' ⟨rfl, _, hb⟩; simp only [if_true])
      go_ret3
      exact ⟨_, rfl, TokRow.nil _ _, hb⟩
    · rw [if_neg hbig] at hR
      have g : ¬ (40000 : Int) < (s.size : Int) := by omega
      have hsz : s.size ≤ 1000000000 := by omega
      have HS := Lib.hid (fun bm n w hk => scan_calls bm n (kwp l) s w hk hsz)
      have HR := Lib.hid hR
      clear hbig hR hsz
      go_enter Try.func10, Try.ntmps10
      go_wp2_with fail
      refine HW.out.mono ?_
      rintro e w' ⟨rfl, hk, hb⟩
      have HK := Lib.hid (hk trivial)
      clear hk
      simp only [if_true]
      go_wp2_with fail
      refine (HS.out _ _ _ HK.out).mono ?_
      rintro e w2 ⟨v, xs, q, c2, rfl, ho, hsc, hb2⟩
      obtain ⟨A2, cp, rfl⟩ := own_slice ho
      have HO := Lib.hid ho
      have HC := Lib.hid hsc
      clear ho hsc
      go_wp2
      go_ret3
      have hb3 := hb2.mono hb.size
      rcases HC.out with ⟨h1, rfl, rfl⟩ | ⟨pre, q', h1, rfl, rfl⟩
      · have h2 := HR.out
        rw [h1] at h2
        simp only at h2
        subst h2
        exact ⟨_, rfl, own_weaken HO.out hb.size, hb.trans hb3⟩
      · have h2 := HR.out
        rw [h1] at h2
        simp only at h2
        subst h2
        exact ⟨_, rfl, own_weaken HO.out hb.size, hb.trans hb3⟩
  · rw [if_pos hE0] at hR
    subst hR
    have g : (E == 0) = false := by simpa using hE0
    have g' : (E != 0) = true := by simpa using hE0
    rw [if_neg hE0] at HW
    clear hE0
    go_enter Try.func10, Try.ntmps10
    go_wp2_with (go_at_call 21; refine HW.out.mono ?_; rintro e w' ⟨rfl, _, hb⟩)
    go_ret3
    exact ⟨_, rfl, TokRow.nil _ _, hb⟩
end Go.Proofs.Ytmkfeanggmjhmaa.S
