/-
  No cell of these rows narrows 'for every input' (looked for: loops, veiled, ifaces, maps, wideKeys, modest, calm, conditions, laid).
  DERIVED. THE GIVEN ROWS OF THIS SEAT. 6 by the template 'for every input the law returns true; each argument reads behind the call as it read before'; 0 by the template 'total and deterministic' (their statements: YtplplojhgiaabaaTotals.lean).
  GIVEN WITH THE SEED: the statements are not yours to turn. If you find one false, say at which input.
  Laid BY PROGRAM, IN A SANDBOX (cutbox-rows.mjs): the forced cells as the released guide's own fill.sh prints them over the translation 039b20338579108a… (all of the seat's roots in one cut). By AI agents, Wed Nov 11 2026. No macro, syntax, notation, axiom, sorry.
-/
import Derived.Test.YtplplojhgiaabaaChecked
import GoSem.Claim
import GoSem.ClaimJoined
import GoSem.ClaimMapViews
import Derived.JoinedTies
import Derived.KernelRfl
namespace Go.Proofs.Ytplplojhgiaabaa
/- THE CELL 'sum', in the pinned program and in every row, IS THE sha256 OF THE DUMP (.gsa) THAT YtplplojhgiaabaaProg.lean LOADS. Nothing in Lean hashes anything: it is a label: what it is worth is what the hold of that sum in a sandbox is worth. -/
noncomputable def Try.pinned : Pinned := { name := "ytplplojhgiaabaa", sum := "039b20338579108a37d717d908c74eda62bafe3d84c237b29f8e32a9e7c7479e", checked := Try.checked }
namespace Rows
def none {H : Type} : Left H := { results := [], args := [] }

/-- 'headgatelaw07.ExtentsTells': WHATEVER THE INPUT: true; the input reads as it did. -/
def extentsTellsSpec : ChangeSpec := { name := "extentsTells", fn := fun _ => fun
  | [d1, d2] => { results := [.lit (.bool true)], args := [d1, d2] }
  | _ => none }
def extentsTellsRow : OpenClaim := { program := "ytplplojhgiaabaa", sum := "039b20338579108a37d717d908c74eda62bafe3d84c237b29f8e32a9e7c7479e", func := "headgate/headgatelaw07.ExtentsTells", spec := "extentsTells", unfollowed := true, recurses := true, apart := false }
def ExtentsTellsSaid : Prop := extentsTellsRow.holds Try.pinned (OpenSpec.ofChange extentsTellsSpec)

/-- ITS FALSE NEIGHBOUR: 'it returns false'. Refute it at one input. -/
def extentsTellsWrong : ChangeSpec := { name := "extentsTells", fn := fun _ => fun
  | [d1, d2] => { results := [.lit (.bool false)], args := [d1, d2] }
  | _ => none }
def ExtentsTellsWrongFalsely : Prop := extentsTellsRow.holds Try.pinned (OpenSpec.ofChange extentsTellsWrong)

/-- 'headgatelaw07.ExtentsOrder': WHATEVER THE INPUT: true; the input reads as it did. -/
def extentsOrderSpec : ChangeSpec := { name := "extentsOrder", fn := fun _ => fun
  | [d1, d2, d3] => { results := [.lit (.bool true)], args := [d1, d2, d3] }
  | _ => none }
def extentsOrderRow : OpenClaim := { program := "ytplplojhgiaabaa", sum := "039b20338579108a37d717d908c74eda62bafe3d84c237b29f8e32a9e7c7479e", func := "headgate/headgatelaw07.ExtentsOrder", spec := "extentsOrder", unfollowed := true, recurses := true, apart := false }
def ExtentsOrderSaid : Prop := extentsOrderRow.holds Try.pinned (OpenSpec.ofChange extentsOrderSpec)

/-- ITS FALSE NEIGHBOUR: 'it returns false'. Refute it at one input. -/
def extentsOrderWrong : ChangeSpec := { name := "extentsOrder", fn := fun _ => fun
  | [d1, d2, d3] => { results := [.lit (.bool false)], args := [d1, d2, d3] }
  | _ => none }
def ExtentsOrderWrongFalsely : Prop := extentsOrderRow.holds Try.pinned (OpenSpec.ofChange extentsOrderWrong)

/-- 'headgatelaw07.ExtentsTurns': WHATEVER THE INPUT: true; the input reads as it did. -/
def extentsTurnsSpec : ChangeSpec := { name := "extentsTurns", fn := fun _ => fun
  | [d1, d2, d3] => { results := [.lit (.bool true)], args := [d1, d2, d3] }
  | _ => none }
def extentsTurnsRow : OpenClaim := { program := "ytplplojhgiaabaa", sum := "039b20338579108a37d717d908c74eda62bafe3d84c237b29f8e32a9e7c7479e", func := "headgate/headgatelaw07.ExtentsTurns", spec := "extentsTurns", unfollowed := true, recurses := true, apart := false }
def ExtentsTurnsSaid : Prop := extentsTurnsRow.holds Try.pinned (OpenSpec.ofChange extentsTurnsSpec)

/-- ITS FALSE NEIGHBOUR: 'it returns false'. Refute it at one input. -/
def extentsTurnsWrong : ChangeSpec := { name := "extentsTurns", fn := fun _ => fun
  | [d1, d2, d3] => { results := [.lit (.bool false)], args := [d1, d2, d3] }
  | _ => none }
def ExtentsTurnsWrongFalsely : Prop := extentsTurnsRow.holds Try.pinned (OpenSpec.ofChange extentsTurnsWrong)

/-- 'headgatelaw07.ExtentsBlocks': WHATEVER THE INPUT: true; the input reads as it did. -/
def extentsBlocksSpec : ChangeSpec := { name := "extentsBlocks", fn := fun _ => fun
  | [d1, d2, d3] => { results := [.lit (.bool true)], args := [d1, d2, d3] }
  | _ => none }
def extentsBlocksRow : OpenClaim := { program := "ytplplojhgiaabaa", sum := "039b20338579108a37d717d908c74eda62bafe3d84c237b29f8e32a9e7c7479e", func := "headgate/headgatelaw07.ExtentsBlocks", spec := "extentsBlocks", unfollowed := true, recurses := true, apart := false }
def ExtentsBlocksSaid : Prop := extentsBlocksRow.holds Try.pinned (OpenSpec.ofChange extentsBlocksSpec)

/-- ITS FALSE NEIGHBOUR: 'it returns false'. Refute it at one input. -/
def extentsBlocksWrong : ChangeSpec := { name := "extentsBlocks", fn := fun _ => fun
  | [d1, d2, d3] => { results := [.lit (.bool false)], args := [d1, d2, d3] }
  | _ => none }
def ExtentsBlocksWrongFalsely : Prop := extentsBlocksRow.holds Try.pinned (OpenSpec.ofChange extentsBlocksWrong)

/-- 'headgatelaw07.ExtentsTexts': WHATEVER THE INPUT: true; the input reads as it did. -/
def extentsTextsSpec : ChangeSpec := { name := "extentsTexts", fn := fun _ => fun
  | [d1, d2] => { results := [.lit (.bool true)], args := [d1, d2] }
  | _ => none }
def extentsTextsRow : OpenClaim := { program := "ytplplojhgiaabaa", sum := "039b20338579108a37d717d908c74eda62bafe3d84c237b29f8e32a9e7c7479e", func := "headgate/headgatelaw07.ExtentsTexts", spec := "extentsTexts", inPlace := ["internal/abi.NoEscape"], unfollowed := true, recurses := true, apart := false }
def ExtentsTextsSaid : Prop := extentsTextsRow.holds Try.pinned (OpenSpec.ofChange extentsTextsSpec)

/-- ITS FALSE NEIGHBOUR: 'it returns false'. Refute it at one input. -/
def extentsTextsWrong : ChangeSpec := { name := "extentsTexts", fn := fun _ => fun
  | [d1, d2] => { results := [.lit (.bool false)], args := [d1, d2] }
  | _ => none }
def ExtentsTextsWrongFalsely : Prop := extentsTextsRow.holds Try.pinned (OpenSpec.ofChange extentsTextsWrong)

/-- 'headgatelaw07.ExtentsBack': WHATEVER THE INPUT: true; the input reads as it did. -/
def extentsBackSpec : ChangeSpec := { name := "extentsBack", fn := fun _ => fun
  | [d1, d2] => { results := [.lit (.bool true)], args := [d1, d2] }
  | _ => none }
def extentsBackRow : OpenClaim := { program := "ytplplojhgiaabaa", sum := "039b20338579108a37d717d908c74eda62bafe3d84c237b29f8e32a9e7c7479e", func := "headgate/headgatelaw07.ExtentsBack", spec := "extentsBack", inPlace := ["internal/abi.NoEscape"], unfollowed := true, recurses := true, apart := false }
def ExtentsBackSaid : Prop := extentsBackRow.holds Try.pinned (OpenSpec.ofChange extentsBackSpec)

/-- ITS FALSE NEIGHBOUR: 'it returns false'. Refute it at one input. -/
def extentsBackWrong : ChangeSpec := { name := "extentsBack", fn := fun _ => fun
  | [d1, d2] => { results := [.lit (.bool false)], args := [d1, d2] }
  | _ => none }
def ExtentsBackWrongFalsely : Prop := extentsBackRow.holds Try.pinned (OpenSpec.ofChange extentsBackWrong)

/- THE SECOND FORM. 'bulk': how many values and letters a reading holds, each counted each time it is reached (what is shared counts as often as it is met; a slice's spare places count too). A statement '..UptoSaid' is the law's where the arguments, and the package variables that the reading takes, are together of bulk at most 1048576: NARROWER than '..Said'. Prove '..Said' where nothing that the law and all that it calls make is longer than what came in: it says more and counts as full. Else prove '..UptoSaid'. A law counts once. -/
mutual
def uptoBulk {H : Type} : DataW H → Nat
  | .lit (.string bytes) => bytes.length + 1
  | .lit _ => 1
  | .nil => 1
  | .ptr d => uptoBulk d + 1
  | .slice elems spare => uptoBulkAll elems + uptoBulkAll spare + 1
  | .agg parts => uptoBulkAll parts + 1
  | .iface _ d => uptoBulk d + 1
  | .map entries => uptoBulkEntries entries + 1
  | .held _ => 1
def uptoBulkAll {H : Type} : List (DataW H) → Nat
  | [] => 0
  | d :: r => uptoBulk d + uptoBulkAll r
def uptoBulkEntries {H : Type} : List (Lit × DataW H) → Nat
  | [] => 0
  | x :: r => uptoBulkEntry x + uptoBulkEntries r
def uptoBulkEntry {H : Type} : Lit × DataW H → Nat
  | (.string bytes, d) => bytes.length + uptoBulk d + 1
  | (_, d) => uptoBulk d + 1
 end
def uptoSmall : (H : Type) → List (DataW H) → Bool := fun _ ds => decide (uptoBulkAll ds ≤ 1048576)
def OpenSpec.upto (s : _root_.Go.ChangeSpec) : _root_.Go.OpenSpec := { _root_.Go.OpenSpec.ofChange s with cond := some uptoSmall }

/-- 'headgatelaw07.ExtentsTells', WHERE WHAT IT READS IS OF BULK AT MOST 1048576: true; the input reads as it did. -/
def extentsTellsUptoRow : OpenClaim := { program := "ytplplojhgiaabaa", sum := "039b20338579108a37d717d908c74eda62bafe3d84c237b29f8e32a9e7c7479e", func := "headgate/headgatelaw07.ExtentsTells", spec := "extentsTells", unfollowed := true, recurses := true, apart := false, narrowed := true }
def ExtentsTellsUptoSaid : Prop := extentsTellsUptoRow.holds Try.pinned (OpenSpec.upto extentsTellsSpec)

/-- 'headgatelaw07.ExtentsOrder', WHERE WHAT IT READS IS OF BULK AT MOST 1048576: true; the input reads as it did. -/
def extentsOrderUptoRow : OpenClaim := { program := "ytplplojhgiaabaa", sum := "039b20338579108a37d717d908c74eda62bafe3d84c237b29f8e32a9e7c7479e", func := "headgate/headgatelaw07.ExtentsOrder", spec := "extentsOrder", unfollowed := true, recurses := true, apart := false, narrowed := true }
def ExtentsOrderUptoSaid : Prop := extentsOrderUptoRow.holds Try.pinned (OpenSpec.upto extentsOrderSpec)

/-- 'headgatelaw07.ExtentsTurns', WHERE WHAT IT READS IS OF BULK AT MOST 1048576: true; the input reads as it did. -/
def extentsTurnsUptoRow : OpenClaim := { program := "ytplplojhgiaabaa", sum := "039b20338579108a37d717d908c74eda62bafe3d84c237b29f8e32a9e7c7479e", func := "headgate/headgatelaw07.ExtentsTurns", spec := "extentsTurns", unfollowed := true, recurses := true, apart := false, narrowed := true }
def ExtentsTurnsUptoSaid : Prop := extentsTurnsUptoRow.holds Try.pinned (OpenSpec.upto extentsTurnsSpec)

/-- 'headgatelaw07.ExtentsBlocks', WHERE WHAT IT READS IS OF BULK AT MOST 1048576: true; the input reads as it did. -/
def extentsBlocksUptoRow : OpenClaim := { program := "ytplplojhgiaabaa", sum := "039b20338579108a37d717d908c74eda62bafe3d84c237b29f8e32a9e7c7479e", func := "headgate/headgatelaw07.ExtentsBlocks", spec := "extentsBlocks", unfollowed := true, recurses := true, apart := false, narrowed := true }
def ExtentsBlocksUptoSaid : Prop := extentsBlocksUptoRow.holds Try.pinned (OpenSpec.upto extentsBlocksSpec)

/-- 'headgatelaw07.ExtentsTexts', WHERE WHAT IT READS IS OF BULK AT MOST 1048576: true; the input reads as it did. -/
def extentsTextsUptoRow : OpenClaim := { program := "ytplplojhgiaabaa", sum := "039b20338579108a37d717d908c74eda62bafe3d84c237b29f8e32a9e7c7479e", func := "headgate/headgatelaw07.ExtentsTexts", spec := "extentsTexts", inPlace := ["internal/abi.NoEscape"], unfollowed := true, recurses := true, apart := false, narrowed := true }
def ExtentsTextsUptoSaid : Prop := extentsTextsUptoRow.holds Try.pinned (OpenSpec.upto extentsTextsSpec)

/-- 'headgatelaw07.ExtentsBack', WHERE WHAT IT READS IS OF BULK AT MOST 1048576: true; the input reads as it did. -/
def extentsBackUptoRow : OpenClaim := { program := "ytplplojhgiaabaa", sum := "039b20338579108a37d717d908c74eda62bafe3d84c237b29f8e32a9e7c7479e", func := "headgate/headgatelaw07.ExtentsBack", spec := "extentsBack", inPlace := ["internal/abi.NoEscape"], unfollowed := true, recurses := true, apart := false, narrowed := true }
def ExtentsBackUptoSaid : Prop := extentsBackUptoRow.holds Try.pinned (OpenSpec.upto extentsBackSpec)

end Rows
end Go.Proofs.Ytplplojhgiaabaa
