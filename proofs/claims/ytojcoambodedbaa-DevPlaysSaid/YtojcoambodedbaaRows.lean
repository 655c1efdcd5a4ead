/-
  No cell of these rows narrows 'for every input' (looked for: loops, veiled, ifaces, maps, wideKeys, modest, calm, conditions, laid).
  DERIVED. THE GIVEN ROWS OF THIS SEAT. 5 by the template 'for every input the law returns true; each argument reads behind the call as it read before'; 0 by the template 'total and deterministic' (their statements: YtojcoambodedbaaTotals.lean).
  GIVEN WITH THE SEED: the statements are not yours to turn. If you find one false, say at which input.
  Laid BY PROGRAM, IN A SANDBOX (cutbox-rows.mjs): the forced cells as the released guide's own fill.sh prints them over the translation 2d48140711527ee0… (all of the seat's roots in one cut). By AI agents, Wed Nov 11 2026. No macro, syntax, notation, axiom, sorry.
-/
import Derived.Test.YtojcoambodedbaaChecked
import GoSem.Claim
import GoSem.ClaimJoined
import GoSem.ClaimMapViews
import Derived.JoinedTies
import Derived.KernelRfl
namespace Go.Proofs.Ytojcoambodedbaa
/- THE CELL 'sum', in the pinned program and in every row, IS THE sha256 OF THE DUMP (.gsa) THAT YtojcoambodedbaaProg.lean LOADS. Nothing in Lean hashes anything: it is a label: what it is worth is what the hold of that sum in a sandbox is worth. -/
noncomputable def Try.pinned : Pinned := { name := "ytojcoambodedbaa", sum := "2d48140711527ee02428507419f7b94a89ef07bd1e2e5f75a727a0b780b2b65b", checked := Try.checked }
namespace Rows
def none {H : Type} : Left H := { results := [], args := [] }

/-- 'headgatelaw04.DevWhole': WHATEVER THE INPUT: true; the input reads as it did. -/
def devWholeSpec : ChangeSpec := { name := "devWhole", fn := fun _ => fun
  | [d1, d2, d3] => { results := [.lit (.bool true)], args := [d1, d2, d3] }
  | _ => none }
def devWholeRow : OpenClaim := { program := "ytojcoambodedbaa", sum := "2d48140711527ee02428507419f7b94a89ef07bd1e2e5f75a727a0b780b2b65b", func := "headgate/headgatelaw04.DevWhole", spec := "devWhole", inPlace := ["sync/atomic.AddInt64", "internal/abi.NoEscape", "sync/atomic.LoadInt64"], apart := false }
def DevWholeSaid : Prop := devWholeRow.holds Try.pinned (OpenSpec.ofChange devWholeSpec)

/-- ITS FALSE NEIGHBOUR: 'it returns false'. Refute it at one input. -/
def devWholeWrong : ChangeSpec := { name := "devWhole", fn := fun _ => fun
  | [d1, d2, d3] => { results := [.lit (.bool false)], args := [d1, d2, d3] }
  | _ => none }
def DevWholeWrongFalsely : Prop := devWholeRow.holds Try.pinned (OpenSpec.ofChange devWholeWrong)

/-- 'headgatelaw04.DevKeeps': WHATEVER THE INPUT: true; the input reads as it did. -/
def devKeepsSpec : ChangeSpec := { name := "devKeeps", fn := fun _ => fun
  | [d1, d2, d3] => { results := [.lit (.bool true)], args := [d1, d2, d3] }
  | _ => none }
def devKeepsRow : OpenClaim := { program := "ytojcoambodedbaa", sum := "2d48140711527ee02428507419f7b94a89ef07bd1e2e5f75a727a0b780b2b65b", func := "headgate/headgatelaw04.DevKeeps", spec := "devKeeps", inPlace := ["sync/atomic.AddInt64", "internal/abi.NoEscape", "sync/atomic.LoadInt64"], apart := false }
def DevKeepsSaid : Prop := devKeepsRow.holds Try.pinned (OpenSpec.ofChange devKeepsSpec)

/-- ITS FALSE NEIGHBOUR: 'it returns false'. Refute it at one input. -/
def devKeepsWrong : ChangeSpec := { name := "devKeeps", fn := fun _ => fun
  | [d1, d2, d3] => { results := [.lit (.bool false)], args := [d1, d2, d3] }
  | _ => none }
def DevKeepsWrongFalsely : Prop := devKeepsRow.holds Try.pinned (OpenSpec.ofChange devKeepsWrong)

/-- 'headgatelaw04.DevArms': WHATEVER THE INPUT: true; the input reads as it did. -/
def devArmsSpec : ChangeSpec := { name := "devArms", fn := fun _ => fun
  | [d1, d2] => { results := [.lit (.bool true)], args := [d1, d2] }
  | _ => none }
def devArmsRow : OpenClaim := { program := "ytojcoambodedbaa", sum := "2d48140711527ee02428507419f7b94a89ef07bd1e2e5f75a727a0b780b2b65b", func := "headgate/headgatelaw04.DevArms", spec := "devArms", inPlace := ["sync/atomic.AddInt64", "internal/abi.NoEscape", "sync/atomic.LoadInt64"], apart := false }
def DevArmsSaid : Prop := devArmsRow.holds Try.pinned (OpenSpec.ofChange devArmsSpec)

/-- ITS FALSE NEIGHBOUR: 'it returns false'. Refute it at one input. -/
def devArmsWrong : ChangeSpec := { name := "devArms", fn := fun _ => fun
  | [d1, d2] => { results := [.lit (.bool false)], args := [d1, d2] }
  | _ => none }
def DevArmsWrongFalsely : Prop := devArmsRow.holds Try.pinned (OpenSpec.ofChange devArmsWrong)

/-- 'headgatelaw04.DevPlays': WHATEVER THE INPUT: true; the input reads as it did. -/
def devPlaysSpec : ChangeSpec := { name := "devPlays", fn := fun _ => fun
  | [d1, d2] => { results := [.lit (.bool true)], args := [d1, d2] }
  | _ => none }
def devPlaysRow : OpenClaim := { program := "ytojcoambodedbaa", sum := "2d48140711527ee02428507419f7b94a89ef07bd1e2e5f75a727a0b780b2b65b", func := "headgate/headgatelaw04.DevPlays", spec := "devPlays", inPlace := ["sync/atomic.AddInt64", "internal/abi.NoEscape", "sync/atomic.LoadInt64"], apart := false }
def DevPlaysSaid : Prop := devPlaysRow.holds Try.pinned (OpenSpec.ofChange devPlaysSpec)

/-- ITS FALSE NEIGHBOUR: 'it returns false'. Refute it at one input. -/
def devPlaysWrong : ChangeSpec := { name := "devPlays", fn := fun _ => fun
  | [d1, d2] => { results := [.lit (.bool false)], args := [d1, d2] }
  | _ => none }
def DevPlaysWrongFalsely : Prop := devPlaysRow.holds Try.pinned (OpenSpec.ofChange devPlaysWrong)

/-- 'headgatelaw04.DevNone': WHATEVER THE INPUT: true; the input reads as it did. -/
def devNoneSpec : ChangeSpec := { name := "devNone", fn := fun _ => fun
  | [d1, d2] => { results := [.lit (.bool true)], args := [d1, d2] }
  | _ => none }
def devNoneRow : OpenClaim := { program := "ytojcoambodedbaa", sum := "2d48140711527ee02428507419f7b94a89ef07bd1e2e5f75a727a0b780b2b65b", func := "headgate/headgatelaw04.DevNone", spec := "devNone", inPlace := ["internal/abi.NoEscape", "sync/atomic.AddInt64", "sync/atomic.LoadInt64"], apart := false }
def DevNoneSaid : Prop := devNoneRow.holds Try.pinned (OpenSpec.ofChange devNoneSpec)

/-- ITS FALSE NEIGHBOUR: 'it returns false'. Refute it at one input. -/
def devNoneWrong : ChangeSpec := { name := "devNone", fn := fun _ => fun
  | [d1, d2] => { results := [.lit (.bool false)], args := [d1, d2] }
  | _ => none }
def DevNoneWrongFalsely : Prop := devNoneRow.holds Try.pinned (OpenSpec.ofChange devNoneWrong)

/- THE SECOND FORM. 'bulk': how many values and letters a reading holds, each counted each time it is reached (what is shared counts as often as it is met; a slice's spare places count too). A statement '..UptoSaid' is the law's where the arguments, and the package variables that the reading takes, are together of bulk at most 1048576: NARROWER than '..Said'. Prove '..Said' where nothing that the law and all that it calls make is longer than what came in: it says more and counts as full. Else prove '..UptoSaid'. A law counts once. -/
mutual
def uptoBulk {H : Type} : DataW H → Nat
  | .lit (.string bytes) => bytes.length + 1
  | .lit _ => 1
  | .nil => 1
  | .ptr d => uptoBulk d + 1
  | .slice elems spare => uptoBulkAll elems + uptoBulkAll spare + 1
  | .agg parts => uptoBulkAll parts + 1
  | .iface _ d => uptoBulk d + 1
  | .map entries => uptoBulkEntries entries + 1
  | .held _ => 1
def uptoBulkAll {H : Type} : List (DataW H) → Nat
  | [] => 0
  | d :: r => uptoBulk d + uptoBulkAll r
def uptoBulkEntries {H : Type} : List (Lit × DataW H) → Nat
  | [] => 0
  | x :: r => uptoBulkEntry x + uptoBulkEntries r
def uptoBulkEntry {H : Type} : Lit × DataW H → Nat
  | (.string bytes, d) => bytes.length + uptoBulk d + 1
  | (_, d) => uptoBulk d + 1
 end
def uptoSmall : (H : Type) → List (DataW H) → Bool := fun _ ds => decide (uptoBulkAll ds ≤ 1048576)
def OpenSpec.upto (s : _root_.Go.ChangeSpec) : _root_.Go.OpenSpec := { _root_.Go.OpenSpec.ofChange s with cond := some uptoSmall }

/-- 'headgatelaw04.DevWhole', WHERE WHAT IT READS IS OF BULK AT MOST 1048576: true; the input reads as it did. -/
def devWholeUptoRow : OpenClaim := { program := "ytojcoambodedbaa", sum := "2d48140711527ee02428507419f7b94a89ef07bd1e2e5f75a727a0b780b2b65b", func := "headgate/headgatelaw04.DevWhole", spec := "devWhole", inPlace := ["sync/atomic.AddInt64", "internal/abi.NoEscape", "sync/atomic.LoadInt64"], apart := false, narrowed := true }
def DevWholeUptoSaid : Prop := devWholeUptoRow.holds Try.pinned (OpenSpec.upto devWholeSpec)

/-- 'headgatelaw04.DevKeeps', WHERE WHAT IT READS IS OF BULK AT MOST 1048576: true; the input reads as it did. -/
def devKeepsUptoRow : OpenClaim := { program := "ytojcoambodedbaa", sum := "2d48140711527ee02428507419f7b94a89ef07bd1e2e5f75a727a0b780b2b65b", func := "headgate/headgatelaw04.DevKeeps", spec := "devKeeps", inPlace := ["sync/atomic.AddInt64", "internal/abi.NoEscape", "sync/atomic.LoadInt64"], apart := false, narrowed := true }
def DevKeepsUptoSaid : Prop := devKeepsUptoRow.holds Try.pinned (OpenSpec.upto devKeepsSpec)

/-- 'headgatelaw04.DevArms', WHERE WHAT IT READS IS OF BULK AT MOST 1048576: true; the input reads as it did. -/
def devArmsUptoRow : OpenClaim := { program := "ytojcoambodedbaa", sum := "2d48140711527ee02428507419f7b94a89ef07bd1e2e5f75a727a0b780b2b65b", func := "headgate/headgatelaw04.DevArms", spec := "devArms", inPlace := ["sync/atomic.AddInt64", "internal/abi.NoEscape", "sync/atomic.LoadInt64"], apart := false, narrowed := true }
def DevArmsUptoSaid : Prop := devArmsUptoRow.holds Try.pinned (OpenSpec.upto devArmsSpec)

/-- 'headgatelaw04.DevPlays', WHERE WHAT IT READS IS OF BULK AT MOST 1048576: true; the input reads as it did. -/
def devPlaysUptoRow : OpenClaim := { program := "ytojcoambodedbaa", sum := "2d48140711527ee02428507419f7b94a89ef07bd1e2e5f75a727a0b780b2b65b", func := "headgate/headgatelaw04.DevPlays", spec := "devPlays", inPlace := ["sync/atomic.AddInt64", "internal/abi.NoEscape", "sync/atomic.LoadInt64"], apart := false, narrowed := true }
def DevPlaysUptoSaid : Prop := devPlaysUptoRow.holds Try.pinned (OpenSpec.upto devPlaysSpec)

/-- 'headgatelaw04.DevNone', WHERE WHAT IT READS IS OF BULK AT MOST 1048576: true; the input reads as it did. -/
def devNoneUptoRow : OpenClaim := { program := "ytojcoambodedbaa", sum := "2d48140711527ee02428507419f7b94a89ef07bd1e2e5f75a727a0b780b2b65b", func := "headgate/headgatelaw04.DevNone", spec := "devNone", inPlace := ["internal/abi.NoEscape", "sync/atomic.AddInt64", "sync/atomic.LoadInt64"], apart := false, narrowed := true }
def DevNoneUptoSaid : Prop := devNoneUptoRow.holds Try.pinned (OpenSpec.upto devNoneSpec)

end Rows
end Go.Proofs.Ytojcoambodedbaa
