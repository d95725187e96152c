/-
  NARROWER THAN 'FOR EVERY INPUT', by the rows' own cells (each row's printed sentence says how): SortNormals: loops · SortLeast: loops · SortOrder: loops · SortChecks: loops · SortNarrower: loops.
  DERIVED. THE GIVEN ROWS OF THIS SEAT. 5 by the template 'for every input the law returns true; each argument reads behind the call as it read before'; 0 by the template 'total and deterministic' (their statements: YthfomoigaoffgaaTotals.lean).
  GIVEN WITH THE SEED: the statements are not yours to turn. If you find one false, say at which input.
  Laid BY PROGRAM, IN A SANDBOX (cutbox-rows.mjs): the forced cells as the released guide's own fill.sh prints them over the translation 354913a5c1e94088… (all of the seat's roots in one cut). By AI agents, Wed Nov 11 2026. No macro, syntax, notation, axiom, sorry.
-/
import Derived.Test.YthfomoigaoffgaaChecked
import GoSem.Claim
import GoSem.ClaimJoined
import GoSem.ClaimMapViews
import Derived.JoinedTies
import Derived.KernelRfl
namespace Go.Proofs.Ythfomoigaoffgaa
/- THE CELL 'sum', in the pinned program and in every row, IS THE sha256 OF THE DUMP (.gsa) THAT YthfomoigaoffgaaProg.lean LOADS. Nothing in Lean hashes anything: it is a label: what it is worth is what the hold of that sum in a sandbox is worth. -/
noncomputable def Try.pinned : Pinned := { name := "ythfomoigaoffgaa", sum := "354913a5c1e940880fa31340fa2cfc8031bec320b5345db5333dda6096916fca", checked := Try.checked }
namespace Rows
def none {H : Type} : Left H := { results := [], args := [] }

/-- 'triforiumlaw01.SortNormals': WHATEVER THE INPUT: true; the input reads as it did. -/
def sortNormalsSpec : ChangeSpec := { name := "sortNormals", fn := fun _ => fun
  | [d1, d2, d3] => { results := [.lit (.bool true)], args := [d1, d2, d3] }
  | _ => none }
def sortNormalsRow : OpenClaim := { program := "ythfomoigaoffgaa", sum := "354913a5c1e940880fa31340fa2cfc8031bec320b5345db5333dda6096916fca", func := "triforium/triforiumlaw01.SortNormals", spec := "sortNormals", unfollowed := true, recurses := true, loops := true, plainKeys := false, apart := false }
def SortNormalsSaid : Prop := sortNormalsRow.holds Try.pinned (OpenSpec.ofChange sortNormalsSpec)

/-- ITS FALSE NEIGHBOUR: 'it returns false'. Refute it at one input. -/
def sortNormalsWrong : ChangeSpec := { name := "sortNormals", fn := fun _ => fun
  | [d1, d2, d3] => { results := [.lit (.bool false)], args := [d1, d2, d3] }
  | _ => none }
def SortNormalsWrongFalsely : Prop := sortNormalsRow.holds Try.pinned (OpenSpec.ofChange sortNormalsWrong)

/-- 'triforiumlaw01.SortLeast': WHATEVER THE INPUT: true; the input reads as it did. -/
def sortLeastSpec : ChangeSpec := { name := "sortLeast", fn := fun _ => fun
  | [d1, d2, d3] => { results := [.lit (.bool true)], args := [d1, d2, d3] }
  | _ => none }
def sortLeastRow : OpenClaim := { program := "ythfomoigaoffgaa", sum := "354913a5c1e940880fa31340fa2cfc8031bec320b5345db5333dda6096916fca", func := "triforium/triforiumlaw01.SortLeast", spec := "sortLeast", unfollowed := true, recurses := true, loops := true, plainKeys := false, apart := false }
def SortLeastSaid : Prop := sortLeastRow.holds Try.pinned (OpenSpec.ofChange sortLeastSpec)

/-- ITS FALSE NEIGHBOUR: 'it returns false'. Refute it at one input. -/
def sortLeastWrong : ChangeSpec := { name := "sortLeast", fn := fun _ => fun
  | [d1, d2, d3] => { results := [.lit (.bool false)], args := [d1, d2, d3] }
  | _ => none }
def SortLeastWrongFalsely : Prop := sortLeastRow.holds Try.pinned (OpenSpec.ofChange sortLeastWrong)

/-- 'triforiumlaw01.SortOrder': WHATEVER THE INPUT: true; the input reads as it did. -/
def sortOrderSpec : ChangeSpec := { name := "sortOrder", fn := fun _ => fun
  | [d1, d2, d3, d4] => { results := [.lit (.bool true)], args := [d1, d2, d3, d4] }
  | _ => none }
def sortOrderRow : OpenClaim := { program := "ythfomoigaoffgaa", sum := "354913a5c1e940880fa31340fa2cfc8031bec320b5345db5333dda6096916fca", func := "triforium/triforiumlaw01.SortOrder", spec := "sortOrder", unfollowed := true, recurses := true, loops := true, plainKeys := false, apart := false }
def SortOrderSaid : Prop := sortOrderRow.holds Try.pinned (OpenSpec.ofChange sortOrderSpec)

/-- ITS FALSE NEIGHBOUR: 'it returns false'. Refute it at one input. -/
def sortOrderWrong : ChangeSpec := { name := "sortOrder", fn := fun _ => fun
  | [d1, d2, d3, d4] => { results := [.lit (.bool false)], args := [d1, d2, d3, d4] }
  | _ => none }
def SortOrderWrongFalsely : Prop := sortOrderRow.holds Try.pinned (OpenSpec.ofChange sortOrderWrong)

/-- 'triforiumlaw01.SortChecks': WHATEVER THE INPUT: true; the input reads as it did. -/
def sortChecksSpec : ChangeSpec := { name := "sortChecks", fn := fun _ => fun
  | [d1, d2, d3, d4, d5] => { results := [.lit (.bool true)], args := [d1, d2, d3, d4, d5] }
  | _ => none }
def sortChecksRow : OpenClaim := { program := "ythfomoigaoffgaa", sum := "354913a5c1e940880fa31340fa2cfc8031bec320b5345db5333dda6096916fca", func := "triforium/triforiumlaw01.SortChecks", spec := "sortChecks", unfollowed := true, recurses := true, loops := true, plainKeys := false, apart := false }
def SortChecksSaid : Prop := sortChecksRow.holds Try.pinned (OpenSpec.ofChange sortChecksSpec)

/-- ITS FALSE NEIGHBOUR: 'it returns false'. Refute it at one input. -/
def sortChecksWrong : ChangeSpec := { name := "sortChecks", fn := fun _ => fun
  | [d1, d2, d3, d4, d5] => { results := [.lit (.bool false)], args := [d1, d2, d3, d4, d5] }
  | _ => none }
def SortChecksWrongFalsely : Prop := sortChecksRow.holds Try.pinned (OpenSpec.ofChange sortChecksWrong)

/-- 'triforiumlaw01.SortNarrower': WHATEVER THE INPUT: true; the input reads as it did. -/
def sortNarrowerSpec : ChangeSpec := { name := "sortNarrower", fn := fun _ => fun
  | [d1, d2, d3, d4, d5] => { results := [.lit (.bool true)], args := [d1, d2, d3, d4, d5] }
  | _ => none }
def sortNarrowerRow : OpenClaim := { program := "ythfomoigaoffgaa", sum := "354913a5c1e940880fa31340fa2cfc8031bec320b5345db5333dda6096916fca", func := "triforium/triforiumlaw01.SortNarrower", spec := "sortNarrower", unfollowed := true, recurses := true, loops := true, plainKeys := false, apart := false }
def SortNarrowerSaid : Prop := sortNarrowerRow.holds Try.pinned (OpenSpec.ofChange sortNarrowerSpec)

/-- ITS FALSE NEIGHBOUR: 'it returns false'. Refute it at one input. -/
def sortNarrowerWrong : ChangeSpec := { name := "sortNarrower", fn := fun _ => fun
  | [d1, d2, d3, d4, d5] => { results := [.lit (.bool false)], args := [d1, d2, d3, d4, d5] }
  | _ => none }
def SortNarrowerWrongFalsely : Prop := sortNarrowerRow.holds Try.pinned (OpenSpec.ofChange sortNarrowerWrong)

/- THE SECOND FORM. 'bulk': how many values and letters a reading holds, each counted each time it is reached (what is shared counts as often as it is met; a slice's spare places count too). A statement '..UptoSaid' is the law's where the arguments, and the package variables that the reading takes, are together of bulk at most 1048576: NARROWER than '..Said'. Prove '..Said' where nothing that the law and all that it calls make is longer than what came in: it says more and counts as full. Else prove '..UptoSaid'. A law counts once. -/
mutual
def uptoBulk {H : Type} : DataW H → Nat
  | .lit (.string bytes) => bytes.length + 1
  | .lit _ => 1
  | .nil => 1
  | .ptr d => uptoBulk d + 1
  | .slice elems spare => uptoBulkAll elems + uptoBulkAll spare + 1
  | .agg parts => uptoBulkAll parts + 1
  | .iface _ d => uptoBulk d + 1
  | .map entries => uptoBulkEntries entries + 1
  | .held _ => 1
def uptoBulkAll {H : Type} : List (DataW H) → Nat
  | [] => 0
  | d :: r => uptoBulk d + uptoBulkAll r
def uptoBulkEntries {H : Type} : List (Lit × DataW H) → Nat
  | [] => 0
  | x :: r => uptoBulkEntry x + uptoBulkEntries r
def uptoBulkEntry {H : Type} : Lit × DataW H → Nat
  | (.string bytes, d) => bytes.length + uptoBulk d + 1
  | (_, d) => uptoBulk d + 1
 end
def uptoSmall : (H : Type) → List (DataW H) → Bool := fun _ ds => decide (uptoBulkAll ds ≤ 1048576)
def OpenSpec.upto (s : _root_.Go.ChangeSpec) : _root_.Go.OpenSpec := { _root_.Go.OpenSpec.ofChange s with cond := some uptoSmall }

/-- 'triforiumlaw01.SortNormals', WHERE WHAT IT READS IS OF BULK AT MOST 1048576: true; the input reads as it did. -/
def sortNormalsUptoRow : OpenClaim := { program := "ythfomoigaoffgaa", sum := "354913a5c1e940880fa31340fa2cfc8031bec320b5345db5333dda6096916fca", func := "triforium/triforiumlaw01.SortNormals", spec := "sortNormals", unfollowed := true, recurses := true, loops := true, plainKeys := false, apart := false, narrowed := true }
def SortNormalsUptoSaid : Prop := sortNormalsUptoRow.holds Try.pinned (OpenSpec.upto sortNormalsSpec)

/-- 'triforiumlaw01.SortLeast', WHERE WHAT IT READS IS OF BULK AT MOST 1048576: true; the input reads as it did. -/
def sortLeastUptoRow : OpenClaim := { program := "ythfomoigaoffgaa", sum := "354913a5c1e940880fa31340fa2cfc8031bec320b5345db5333dda6096916fca", func := "triforium/triforiumlaw01.SortLeast", spec := "sortLeast", unfollowed := true, recurses := true, loops := true, plainKeys := false, apart := false, narrowed := true }
def SortLeastUptoSaid : Prop := sortLeastUptoRow.holds Try.pinned (OpenSpec.upto sortLeastSpec)

/-- 'triforiumlaw01.SortOrder', WHERE WHAT IT READS IS OF BULK AT MOST 1048576: true; the input reads as it did. -/
def sortOrderUptoRow : OpenClaim := { program := "ythfomoigaoffgaa", sum := "354913a5c1e940880fa31340fa2cfc8031bec320b5345db5333dda6096916fca", func := "triforium/triforiumlaw01.SortOrder", spec := "sortOrder", unfollowed := true, recurses := true, loops := true, plainKeys := false, apart := false, narrowed := true }
def SortOrderUptoSaid : Prop := sortOrderUptoRow.holds Try.pinned (OpenSpec.upto sortOrderSpec)

/-- 'triforiumlaw01.SortChecks', WHERE WHAT IT READS IS OF BULK AT MOST 1048576: true; the input reads as it did. -/
def sortChecksUptoRow : OpenClaim := { program := "ythfomoigaoffgaa", sum := "354913a5c1e940880fa31340fa2cfc8031bec320b5345db5333dda6096916fca", func := "triforium/triforiumlaw01.SortChecks", spec := "sortChecks", unfollowed := true, recurses := true, loops := true, plainKeys := false, apart := false, narrowed := true }
def SortChecksUptoSaid : Prop := sortChecksUptoRow.holds Try.pinned (OpenSpec.upto sortChecksSpec)

/-- 'triforiumlaw01.SortNarrower', WHERE WHAT IT READS IS OF BULK AT MOST 1048576: true; the input reads as it did. -/
def sortNarrowerUptoRow : OpenClaim := { program := "ythfomoigaoffgaa", sum := "354913a5c1e940880fa31340fa2cfc8031bec320b5345db5333dda6096916fca", func := "triforium/triforiumlaw01.SortNarrower", spec := "sortNarrower", unfollowed := true, recurses := true, loops := true, plainKeys := false, apart := false, narrowed := true }
def SortNarrowerUptoSaid : Prop := sortNarrowerUptoRow.holds Try.pinned (OpenSpec.upto sortNarrowerSpec)

end Rows
end Go.Proofs.Ythfomoigaoffgaa
