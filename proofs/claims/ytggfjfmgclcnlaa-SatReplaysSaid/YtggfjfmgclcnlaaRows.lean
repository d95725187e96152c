/-
  No cell of these rows narrows 'for every input' (looked for: loops, veiled, ifaces, maps, wideKeys, modest, calm, conditions, laid).
  DERIVED. THE GIVEN ROWS OF THIS SEAT. 4 by the template 'for every input the law returns true; each argument reads behind the call as it read before'; 0 by the template 'total and deterministic' (their statements: YtggfjfmgclcnlaaTotals.lean).
  GIVEN WITH THE SEED: the statements are not yours to turn. If you find one false, say at which input.
  Laid BY PROGRAM, IN A SANDBOX (cutbox-rows.mjs): the forced cells as the released guide's own fill.sh prints them over the translation dff5b6a393e2623a… (all of the seat's roots in one cut). By AI agents, Wed Nov 11 2026. No macro, syntax, notation, axiom, sorry.
-/
import Derived.Test.YtggfjfmgclcnlaaChecked
import GoSem.Claim
import GoSem.ClaimJoined
import GoSem.ClaimMapViews
import Derived.JoinedTies
import Derived.KernelRfl
namespace Go.Proofs.Ytggfjfmgclcnlaa
/- THE CELL 'sum', in the pinned program and in every row, IS THE sha256 OF THE DUMP (.gsa) THAT YtggfjfmgclcnlaaProg.lean LOADS. Nothing in Lean hashes anything: it is a label: what it is worth is what the hold of that sum in a sandbox is worth. -/
noncomputable def Try.pinned : Pinned := { name := "ytggfjfmgclcnlaa", sum := "dff5b6a393e2623a376d1d35e5e3dbf025ff95a5b3d2f1f08b9a7dc672c3bf10", checked := Try.checked }
namespace Rows
def none {H : Type} : Left H := { results := [], args := [] }

/-- 'triforiumlaw25.SatSolves': WHATEVER THE INPUT: true; the input reads as it did. -/
def satSolvesSpec : ChangeSpec := { name := "satSolves", fn := fun _ => fun
  | [d1, d2] => { results := [.lit (.bool true)], args := [d1, d2] }
  | _ => none }
def satSolvesRow : OpenClaim := { program := "ytggfjfmgclcnlaa", sum := "dff5b6a393e2623a376d1d35e5e3dbf025ff95a5b3d2f1f08b9a7dc672c3bf10", func := "triforium/triforiumlaw25.SatSolves", spec := "satSolves", unfollowed := true, recurses := true, apart := false }
def SatSolvesSaid : Prop := satSolvesRow.holds Try.pinned (OpenSpec.ofChange satSolvesSpec)

/-- ITS FALSE NEIGHBOUR: 'it returns false'. Refute it at one input. -/
def satSolvesWrong : ChangeSpec := { name := "satSolves", fn := fun _ => fun
  | [d1, d2] => { results := [.lit (.bool false)], args := [d1, d2] }
  | _ => none }
def SatSolvesWrongFalsely : Prop := satSolvesRow.holds Try.pinned (OpenSpec.ofChange satSolvesWrong)

/-- 'triforiumlaw25.SatTrims': WHATEVER THE INPUT: true; the input reads as it did. -/
def satTrimsSpec : ChangeSpec := { name := "satTrims", fn := fun _ => fun
  | [d1, d2, d3] => { results := [.lit (.bool true)], args := [d1, d2, d3] }
  | _ => none }
def satTrimsRow : OpenClaim := { program := "ytggfjfmgclcnlaa", sum := "dff5b6a393e2623a376d1d35e5e3dbf025ff95a5b3d2f1f08b9a7dc672c3bf10", func := "triforium/triforiumlaw25.SatTrims", spec := "satTrims", unfollowed := true, recurses := true, apart := false }
def SatTrimsSaid : Prop := satTrimsRow.holds Try.pinned (OpenSpec.ofChange satTrimsSpec)

/-- ITS FALSE NEIGHBOUR: 'it returns false'. Refute it at one input. -/
def satTrimsWrong : ChangeSpec := { name := "satTrims", fn := fun _ => fun
  | [d1, d2, d3] => { results := [.lit (.bool false)], args := [d1, d2, d3] }
  | _ => none }
def SatTrimsWrongFalsely : Prop := satTrimsRow.holds Try.pinned (OpenSpec.ofChange satTrimsWrong)

/-- 'triforiumlaw25.SatMore': WHATEVER THE INPUT: true; the input reads as it did. -/
def satMoreSpec : ChangeSpec := { name := "satMore", fn := fun _ => fun
  | [d1, d2] => { results := [.lit (.bool true)], args := [d1, d2] }
  | _ => none }
def satMoreRow : OpenClaim := { program := "ytggfjfmgclcnlaa", sum := "dff5b6a393e2623a376d1d35e5e3dbf025ff95a5b3d2f1f08b9a7dc672c3bf10", func := "triforium/triforiumlaw25.SatMore", spec := "satMore", unfollowed := true, recurses := true, apart := false }
def SatMoreSaid : Prop := satMoreRow.holds Try.pinned (OpenSpec.ofChange satMoreSpec)

/-- ITS FALSE NEIGHBOUR: 'it returns false'. Refute it at one input. -/
def satMoreWrong : ChangeSpec := { name := "satMore", fn := fun _ => fun
  | [d1, d2] => { results := [.lit (.bool false)], args := [d1, d2] }
  | _ => none }
def SatMoreWrongFalsely : Prop := satMoreRow.holds Try.pinned (OpenSpec.ofChange satMoreWrong)

/-- 'triforiumlaw25.SatReplays': WHATEVER THE INPUT: true; the input reads as it did. -/
def satReplaysSpec : ChangeSpec := { name := "satReplays", fn := fun _ => fun
  | [d1, d2] => { results := [.lit (.bool true)], args := [d1, d2] }
  | _ => none }
def satReplaysRow : OpenClaim := { program := "ytggfjfmgclcnlaa", sum := "dff5b6a393e2623a376d1d35e5e3dbf025ff95a5b3d2f1f08b9a7dc672c3bf10", func := "triforium/triforiumlaw25.SatReplays", spec := "satReplays", unfollowed := true, recurses := true, apart := false }
def SatReplaysSaid : Prop := satReplaysRow.holds Try.pinned (OpenSpec.ofChange satReplaysSpec)

/-- ITS FALSE NEIGHBOUR: 'it returns false'. Refute it at one input. -/
def satReplaysWrong : ChangeSpec := { name := "satReplays", fn := fun _ => fun
  | [d1, d2] => { results := [.lit (.bool false)], args := [d1, d2] }
  | _ => none }
def SatReplaysWrongFalsely : Prop := satReplaysRow.holds Try.pinned (OpenSpec.ofChange satReplaysWrong)

/- THE SECOND FORM. 'bulk': how many values and letters a reading holds, each counted each time it is reached (what is shared counts as often as it is met; a slice's spare places count too). A statement '..UptoSaid' is the law's where the arguments, and the package variables that the reading takes, are together of bulk at most 1048576: NARROWER than '..Said'. Prove '..Said' where nothing that the law and all that it calls make is longer than what came in: it says more and counts as full. Else prove '..UptoSaid'. A law counts once. -/
mutual
def uptoBulk {H : Type} : DataW H → Nat
  | .lit (.string bytes) => bytes.length + 1
  | .lit _ => 1
  | .nil => 1
  | .ptr d => uptoBulk d + 1
  | .slice elems spare => uptoBulkAll elems + uptoBulkAll spare + 1
  | .agg parts => uptoBulkAll parts + 1
  | .iface _ d => uptoBulk d + 1
  | .map entries => uptoBulkEntries entries + 1
  | .held _ => 1
def uptoBulkAll {H : Type} : List (DataW H) → Nat
  | [] => 0
  | d :: r => uptoBulk d + uptoBulkAll r
def uptoBulkEntries {H : Type} : List (Lit × DataW H) → Nat
  | [] => 0
  | x :: r => uptoBulkEntry x + uptoBulkEntries r
def uptoBulkEntry {H : Type} : Lit × DataW H → Nat
  | (.string bytes, d) => bytes.length + uptoBulk d + 1
  | (_, d) => uptoBulk d + 1
 end
def uptoSmall : (H : Type) → List (DataW H) → Bool := fun _ ds => decide (uptoBulkAll ds ≤ 1048576)
def OpenSpec.upto (s : _root_.Go.ChangeSpec) : _root_.Go.OpenSpec := { _root_.Go.OpenSpec.ofChange s with cond := some uptoSmall }

/-- 'triforiumlaw25.SatSolves', WHERE WHAT IT READS IS OF BULK AT MOST 1048576: true; the input reads as it did. -/
def satSolvesUptoRow : OpenClaim := { program := "ytggfjfmgclcnlaa", sum := "dff5b6a393e2623a376d1d35e5e3dbf025ff95a5b3d2f1f08b9a7dc672c3bf10", func := "triforium/triforiumlaw25.SatSolves", spec := "satSolves", unfollowed := true, recurses := true, apart := false, narrowed := true }
def SatSolvesUptoSaid : Prop := satSolvesUptoRow.holds Try.pinned (OpenSpec.upto satSolvesSpec)

/-- 'triforiumlaw25.SatTrims', WHERE WHAT IT READS IS OF BULK AT MOST 1048576: true; the input reads as it did. -/
def satTrimsUptoRow : OpenClaim := { program := "ytggfjfmgclcnlaa", sum := "dff5b6a393e2623a376d1d35e5e3dbf025ff95a5b3d2f1f08b9a7dc672c3bf10", func := "triforium/triforiumlaw25.SatTrims", spec := "satTrims", unfollowed := true, recurses := true, apart := false, narrowed := true }
def SatTrimsUptoSaid : Prop := satTrimsUptoRow.holds Try.pinned (OpenSpec.upto satTrimsSpec)

/-- 'triforiumlaw25.SatMore', WHERE WHAT IT READS IS OF BULK AT MOST 1048576: true; the input reads as it did. -/
def satMoreUptoRow : OpenClaim := { program := "ytggfjfmgclcnlaa", sum := "dff5b6a393e2623a376d1d35e5e3dbf025ff95a5b3d2f1f08b9a7dc672c3bf10", func := "triforium/triforiumlaw25.SatMore", spec := "satMore", unfollowed := true, recurses := true, apart := false, narrowed := true }
def SatMoreUptoSaid : Prop := satMoreUptoRow.holds Try.pinned (OpenSpec.upto satMoreSpec)

/-- 'triforiumlaw25.SatReplays', WHERE WHAT IT READS IS OF BULK AT MOST 1048576: true; the input reads as it did. -/
def satReplaysUptoRow : OpenClaim := { program := "ytggfjfmgclcnlaa", sum := "dff5b6a393e2623a376d1d35e5e3dbf025ff95a5b3d2f1f08b9a7dc672c3bf10", func := "triforium/triforiumlaw25.SatReplays", spec := "satReplays", unfollowed := true, recurses := true, apart := false, narrowed := true }
def SatReplaysUptoSaid : Prop := satReplaysUptoRow.holds Try.pinned (OpenSpec.upto satReplaysSpec)

end Rows
end Go.Proofs.Ytggfjfmgclcnlaa
