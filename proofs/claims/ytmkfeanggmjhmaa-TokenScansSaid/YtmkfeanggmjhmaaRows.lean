/-
  No cell of these rows narrows 'for every input' (looked for: loops, veiled, ifaces, maps, wideKeys, modest, calm, conditions, laid).
  DERIVED. THE GIVEN ROWS OF THIS SEAT. 3 by the template 'for every input the law returns true; each argument reads behind the call as it read before'; 0 by the template 'total and deterministic' (their statements: YtmkfeanggmjhmaaTotals.lean).
  GIVEN WITH THE SEED: the statements are not yours to turn. If you find one false, say at which input.
  Laid BY PROGRAM, IN A SANDBOX (cutbox-rows.mjs): the forced cells as the released guide's own fill.sh prints them over the translation 73493a475e4a8938… (all of the seat's roots in one cut). By AI agents, Wed Nov 11 2026. No macro, syntax, notation, axiom, sorry.
-/
import Derived.Test.YtmkfeanggmjhmaaChecked
import GoSem.Claim
import GoSem.ClaimJoined
import GoSem.ClaimMapViews
import Derived.JoinedTies
import Derived.KernelRfl
namespace Go.Proofs.Ytmkfeanggmjhmaa
/- THE CELL 'sum', in the pinned program and in every row, IS THE sha256 OF THE DUMP (.gsa) THAT YtmkfeanggmjhmaaProg.lean LOADS. Nothing in Lean hashes anything: it is a label: what it is worth is what the hold of that sum in a sandbox is worth. -/
noncomputable def Try.pinned : Pinned := { name := "ytmkfeanggmjhmaa", sum := "73493a475e4a8938a4cca8ffed189da15caabe974d34875937ce528c82fac9c4", checked := Try.checked }
namespace Rows
def none {H : Type} : Left H := { results := [], args := [] }

/-- 'triforiumlaw14.TokenScans': WHATEVER THE INPUT: true; the input reads as it did. -/
def tokenScansSpec : ChangeSpec := { name := "tokenScans", fn := fun _ => fun
  | [d1, d2] => { results := [.lit (.bool true)], args := [d1, d2] }
  | _ => none }
def tokenScansRow : OpenClaim := { program := "ytmkfeanggmjhmaa", sum := "73493a475e4a8938a4cca8ffed189da15caabe974d34875937ce528c82fac9c4", func := "triforium/triforiumlaw14.TokenScans", spec := "tokenScans", inPlace := ["internal/bytealg.IndexByteString", "internal/abi.NoEscape"], unfollowed := true, recurses := true, apart := false }
def TokenScansSaid : Prop := tokenScansRow.holds Try.pinned (OpenSpec.ofChange tokenScansSpec)

/-- ITS FALSE NEIGHBOUR: 'it returns false'. Refute it at one input. -/
def tokenScansWrong : ChangeSpec := { name := "tokenScans", fn := fun _ => fun
  | [d1, d2] => { results := [.lit (.bool false)], args := [d1, d2] }
  | _ => none }
def TokenScansWrongFalsely : Prop := tokenScansRow.holds Try.pinned (OpenSpec.ofChange tokenScansWrong)

/-- 'triforiumlaw14.TokenParts': WHATEVER THE INPUT: true; the input reads as it did. -/
def tokenPartsSpec : ChangeSpec := { name := "tokenParts", fn := fun _ => fun
  | [d1, d2, d3] => { results := [.lit (.bool true)], args := [d1, d2, d3] }
  | _ => none }
def tokenPartsRow : OpenClaim := { program := "ytmkfeanggmjhmaa", sum := "73493a475e4a8938a4cca8ffed189da15caabe974d34875937ce528c82fac9c4", func := "triforium/triforiumlaw14.TokenParts", spec := "tokenParts", inPlace := ["internal/bytealg.IndexByteString", "internal/abi.NoEscape"], unfollowed := true, recurses := true, apart := false }
def TokenPartsSaid : Prop := tokenPartsRow.holds Try.pinned (OpenSpec.ofChange tokenPartsSpec)

/-- ITS FALSE NEIGHBOUR: 'it returns false'. Refute it at one input. -/
def tokenPartsWrong : ChangeSpec := { name := "tokenParts", fn := fun _ => fun
  | [d1, d2, d3] => { results := [.lit (.bool false)], args := [d1, d2, d3] }
  | _ => none }
def TokenPartsWrongFalsely : Prop := tokenPartsRow.holds Try.pinned (OpenSpec.ofChange tokenPartsWrong)

/-- 'triforiumlaw14.TokenSymbols': WHATEVER THE INPUT: true; the input reads as it did. -/
def tokenSymbolsSpec : ChangeSpec := { name := "tokenSymbols", fn := fun _ => fun
  | [d] => { results := [.lit (.bool true)], args := [d] }
  | _ => none }
def tokenSymbolsRow : OpenClaim := { program := "ytmkfeanggmjhmaa", sum := "73493a475e4a8938a4cca8ffed189da15caabe974d34875937ce528c82fac9c4", func := "triforium/triforiumlaw14.TokenSymbols", spec := "tokenSymbols", inPlace := ["internal/bytealg.IndexByteString", "internal/abi.NoEscape"], unfollowed := true, recurses := true, apart := false }
def TokenSymbolsSaid : Prop := tokenSymbolsRow.holds Try.pinned (OpenSpec.ofChange tokenSymbolsSpec)

/-- ITS FALSE NEIGHBOUR: 'it returns false'. Refute it at one input. -/
def tokenSymbolsWrong : ChangeSpec := { name := "tokenSymbols", fn := fun _ => fun
  | [d] => { results := [.lit (.bool false)], args := [d] }
  | _ => none }
def TokenSymbolsWrongFalsely : Prop := tokenSymbolsRow.holds Try.pinned (OpenSpec.ofChange tokenSymbolsWrong)

/- THE SECOND FORM. 'bulk': how many values and letters a reading holds, each counted each time it is reached (what is shared counts as often as it is met; a slice's spare places count too). A statement '..UptoSaid' is the law's where the arguments, and the package variables that the reading takes, are together of bulk at most 1048576: NARROWER than '..Said'. Prove '..Said' where nothing that the law and all that it calls make is longer than what came in: it says more and counts as full. Else prove '..UptoSaid'. A law counts once. -/
mutual
def uptoBulk {H : Type} : DataW H → Nat
  | .lit (.string bytes) => bytes.length + 1
  | .lit _ => 1
  | .nil => 1
  | .ptr d => uptoBulk d + 1
  | .slice elems spare => uptoBulkAll elems + uptoBulkAll spare + 1
  | .agg parts => uptoBulkAll parts + 1
  | .iface _ d => uptoBulk d + 1
  | .map entries => uptoBulkEntries entries + 1
  | .held _ => 1
def uptoBulkAll {H : Type} : List (DataW H) → Nat
  | [] => 0
  | d :: r => uptoBulk d + uptoBulkAll r
def uptoBulkEntries {H : Type} : List (Lit × DataW H) → Nat
  | [] => 0
  | x :: r => uptoBulkEntry x + uptoBulkEntries r
def uptoBulkEntry {H : Type} : Lit × DataW H → Nat
  | (.string bytes, d) => bytes.length + uptoBulk d + 1
  | (_, d) => uptoBulk d + 1
 end
def uptoSmall : (H : Type) → List (DataW H) → Bool := fun _ ds => decide (uptoBulkAll ds ≤ 1048576)
def OpenSpec.upto (s : _root_.Go.ChangeSpec) : _root_.Go.OpenSpec := { _root_.Go.OpenSpec.ofChange s with cond := some uptoSmall }

/-- 'triforiumlaw14.TokenScans', WHERE WHAT IT READS IS OF BULK AT MOST 1048576: true; the input reads as it did. -/
def tokenScansUptoRow : OpenClaim := { program := "ytmkfeanggmjhmaa", sum := "73493a475e4a8938a4cca8ffed189da15caabe974d34875937ce528c82fac9c4", func := "triforium/triforiumlaw14.TokenScans", spec := "tokenScans", inPlace := ["internal/bytealg.IndexByteString", "internal/abi.NoEscape"], unfollowed := true, recurses := true, apart := false, narrowed := true }
def TokenScansUptoSaid : Prop := tokenScansUptoRow.holds Try.pinned (OpenSpec.upto tokenScansSpec)

/-- 'triforiumlaw14.TokenParts', WHERE WHAT IT READS IS OF BULK AT MOST 1048576: true; the input reads as it did. -/
def tokenPartsUptoRow : OpenClaim := { program := "ytmkfeanggmjhmaa", sum := "73493a475e4a8938a4cca8ffed189da15caabe974d34875937ce528c82fac9c4", func := "triforium/triforiumlaw14.TokenParts", spec := "tokenParts", inPlace := ["internal/bytealg.IndexByteString", "internal/abi.NoEscape"], unfollowed := true, recurses := true, apart := false, narrowed := true }
def TokenPartsUptoSaid : Prop := tokenPartsUptoRow.holds Try.pinned (OpenSpec.upto tokenPartsSpec)

/-- 'triforiumlaw14.TokenSymbols', WHERE WHAT IT READS IS OF BULK AT MOST 1048576: true; the input reads as it did. -/
def tokenSymbolsUptoRow : OpenClaim := { program := "ytmkfeanggmjhmaa", sum := "73493a475e4a8938a4cca8ffed189da15caabe974d34875937ce528c82fac9c4", func := "triforium/triforiumlaw14.TokenSymbols", spec := "tokenSymbols", inPlace := ["internal/bytealg.IndexByteString", "internal/abi.NoEscape"], unfollowed := true, recurses := true, apart := false, narrowed := true }
def TokenSymbolsUptoSaid : Prop := tokenSymbolsUptoRow.holds Try.pinned (OpenSpec.upto tokenSymbolsSpec)

end Rows
end Go.Proofs.Ytmkfeanggmjhmaa
