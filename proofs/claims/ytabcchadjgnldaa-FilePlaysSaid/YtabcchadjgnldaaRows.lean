/-
  No cell of these rows narrows 'for every input' (looked for: loops, veiled, ifaces, maps, wideKeys, modest, calm, conditions, laid).
  DERIVED. THE GIVEN ROWS OF THIS SEAT. 5 by the template 'for every input the law returns true; each argument reads behind the call as it read before'; 0 by the template 'total and deterministic' (their statements: YtabcchadjgnldaaTotals.lean).
  GIVEN WITH THE SEED: the statements are not yours to turn. If you find one false, say at which input.
  Laid BY PROGRAM, IN A SANDBOX (cutbox-rows.mjs): the forced cells as the released guide's own fill.sh prints them over the translation 3837420e2fc67495… (all of the seat's roots in one cut). By AI agents, Wed Nov 11 2026. No macro, syntax, notation, axiom, sorry.
-/
import Derived.Test.YtabcchadjgnldaaChecked
import GoSem.Claim
import GoSem.ClaimJoined
import GoSem.ClaimMapViews
import Derived.JoinedTies
import Derived.KernelRfl
namespace Go.Proofs.Ytabcchadjgnldaa
/- THE CELL 'sum', in the pinned program and in every row, IS THE sha256 OF THE DUMP (.gsa) THAT YtabcchadjgnldaaProg.lean LOADS. Nothing in Lean hashes anything: it is a label: what it is worth is what the hold of that sum in a sandbox is worth. -/
noncomputable def Try.pinned : Pinned := { name := "ytabcchadjgnldaa", sum := "3837420e2fc67495d70a0ea2cd94148cbe70b2d8537e21d07196c81be08f0162", checked := Try.checked }
namespace Rows
def none {H : Type} : Left H := { results := [], args := [] }

/-- 'copyholdlaw4.FilePlays': WHATEVER THE INPUT: true; the input reads as it did. -/
def filePlaysSpec : ChangeSpec := { name := "filePlays", fn := fun _ => fun
  | [d1, d2] => { results := [.lit (.bool true)], args := [d1, d2] }
  | _ => none }
def filePlaysRow : OpenClaim := { program := "ytabcchadjgnldaa", sum := "3837420e2fc67495d70a0ea2cd94148cbe70b2d8537e21d07196c81be08f0162", func := "copyhold/copyholdlaw4.FilePlays", spec := "filePlays", inPlace := ["internal/reflectlite.TypeOf"], unfollowed := true, recurses := true, apart := false }
def FilePlaysSaid : Prop := filePlaysRow.holds Try.pinned (OpenSpec.ofChange filePlaysSpec)

/-- ITS FALSE NEIGHBOUR: 'it returns false'. Refute it at one input. -/
def filePlaysWrong : ChangeSpec := { name := "filePlays", fn := fun _ => fun
  | [d1, d2] => { results := [.lit (.bool false)], args := [d1, d2] }
  | _ => none }
def FilePlaysWrongFalsely : Prop := filePlaysRow.holds Try.pinned (OpenSpec.ofChange filePlaysWrong)

/-- 'copyholdlaw4.FileCopies': WHATEVER THE INPUT: true; the input reads as it did. -/
def fileCopiesSpec : ChangeSpec := { name := "fileCopies", fn := fun _ => fun
  | [d1, d2] => { results := [.lit (.bool true)], args := [d1, d2] }
  | _ => none }
def fileCopiesRow : OpenClaim := { program := "ytabcchadjgnldaa", sum := "3837420e2fc67495d70a0ea2cd94148cbe70b2d8537e21d07196c81be08f0162", func := "copyhold/copyholdlaw4.FileCopies", spec := "fileCopies", inPlace := ["internal/reflectlite.TypeOf"], unfollowed := true, recurses := true, apart := false }
def FileCopiesSaid : Prop := fileCopiesRow.holds Try.pinned (OpenSpec.ofChange fileCopiesSpec)

/-- ITS FALSE NEIGHBOUR: 'it returns false'. Refute it at one input. -/
def fileCopiesWrong : ChangeSpec := { name := "fileCopies", fn := fun _ => fun
  | [d1, d2] => { results := [.lit (.bool false)], args := [d1, d2] }
  | _ => none }
def FileCopiesWrongFalsely : Prop := fileCopiesRow.holds Try.pinned (OpenSpec.ofChange fileCopiesWrong)

/-- 'copyholdlaw4.FileSynced': WHATEVER THE INPUT: true; the input reads as it did. -/
def fileSyncedSpec : ChangeSpec := { name := "fileSynced", fn := fun _ => fun
  | [d1, d2] => { results := [.lit (.bool true)], args := [d1, d2] }
  | _ => none }
def fileSyncedRow : OpenClaim := { program := "ytabcchadjgnldaa", sum := "3837420e2fc67495d70a0ea2cd94148cbe70b2d8537e21d07196c81be08f0162", func := "copyhold/copyholdlaw4.FileSynced", spec := "fileSynced", inPlace := ["internal/reflectlite.TypeOf"], unfollowed := true, recurses := true, apart := false }
def FileSyncedSaid : Prop := fileSyncedRow.holds Try.pinned (OpenSpec.ofChange fileSyncedSpec)

/-- ITS FALSE NEIGHBOUR: 'it returns false'. Refute it at one input. -/
def fileSyncedWrong : ChangeSpec := { name := "fileSynced", fn := fun _ => fun
  | [d1, d2] => { results := [.lit (.bool false)], args := [d1, d2] }
  | _ => none }
def FileSyncedWrongFalsely : Prop := fileSyncedRow.holds Try.pinned (OpenSpec.ofChange fileSyncedWrong)

/-- 'copyholdlaw4.FileKept': WHATEVER THE INPUT: true; the input reads as it did. -/
def fileKeptSpec : ChangeSpec := { name := "fileKept", fn := fun _ => fun
  | [d1, d2, d3] => { results := [.lit (.bool true)], args := [d1, d2, d3] }
  | _ => none }
def fileKeptRow : OpenClaim := { program := "ytabcchadjgnldaa", sum := "3837420e2fc67495d70a0ea2cd94148cbe70b2d8537e21d07196c81be08f0162", func := "copyhold/copyholdlaw4.FileKept", spec := "fileKept", inPlace := ["internal/reflectlite.TypeOf"], unfollowed := true, recurses := true, apart := false }
def FileKeptSaid : Prop := fileKeptRow.holds Try.pinned (OpenSpec.ofChange fileKeptSpec)

/-- ITS FALSE NEIGHBOUR: 'it returns false'. Refute it at one input. -/
def fileKeptWrong : ChangeSpec := { name := "fileKept", fn := fun _ => fun
  | [d1, d2, d3] => { results := [.lit (.bool false)], args := [d1, d2, d3] }
  | _ => none }
def FileKeptWrongFalsely : Prop := fileKeptRow.holds Try.pinned (OpenSpec.ofChange fileKeptWrong)

/-- 'copyholdlaw4.FileLoose': WHATEVER THE INPUT: true; the input reads as it did. -/
def fileLooseSpec : ChangeSpec := { name := "fileLoose", fn := fun _ => fun
  | [d1, d2] => { results := [.lit (.bool true)], args := [d1, d2] }
  | _ => none }
def fileLooseRow : OpenClaim := { program := "ytabcchadjgnldaa", sum := "3837420e2fc67495d70a0ea2cd94148cbe70b2d8537e21d07196c81be08f0162", func := "copyhold/copyholdlaw4.FileLoose", spec := "fileLoose", inPlace := ["internal/reflectlite.TypeOf"], unfollowed := true, recurses := true, apart := false }
def FileLooseSaid : Prop := fileLooseRow.holds Try.pinned (OpenSpec.ofChange fileLooseSpec)

/-- ITS FALSE NEIGHBOUR: 'it returns false'. Refute it at one input. -/
def fileLooseWrong : ChangeSpec := { name := "fileLoose", fn := fun _ => fun
  | [d1, d2] => { results := [.lit (.bool false)], args := [d1, d2] }
  | _ => none }
def FileLooseWrongFalsely : Prop := fileLooseRow.holds Try.pinned (OpenSpec.ofChange fileLooseWrong)

/- THE SECOND FORM. 'bulk': how many values and letters a reading holds, each counted each time it is reached (what is shared counts as often as it is met; a slice's spare places count too). A statement '..UptoSaid' is the law's where the arguments, and the package variables that the reading takes, are together of bulk at most 1048576: NARROWER than '..Said'. Prove '..Said' where nothing that the law and all that it calls make is longer than what came in: it says more and counts as full. Else prove '..UptoSaid'. A law counts once. -/
mutual
def uptoBulk {H : Type} : DataW H → Nat
  | .lit (.string bytes) => bytes.length + 1
  | .lit _ => 1
  | .nil => 1
  | .ptr d => uptoBulk d + 1
  | .slice elems spare => uptoBulkAll elems + uptoBulkAll spare + 1
  | .agg parts => uptoBulkAll parts + 1
  | .iface _ d => uptoBulk d + 1
  | .map entries => uptoBulkEntries entries + 1
  | .held _ => 1
def uptoBulkAll {H : Type} : List (DataW H) → Nat
  | [] => 0
  | d :: r => uptoBulk d + uptoBulkAll r
def uptoBulkEntries {H : Type} : List (Lit × DataW H) → Nat
  | [] => 0
  | x :: r => uptoBulkEntry x + uptoBulkEntries r
def uptoBulkEntry {H : Type} : Lit × DataW H → Nat
  | (.string bytes, d) => bytes.length + uptoBulk d + 1
  | (_, d) => uptoBulk d + 1
 end
def uptoSmall : (H : Type) → List (DataW H) → Bool := fun _ ds => decide (uptoBulkAll ds ≤ 1048576)
def OpenSpec.upto (s : _root_.Go.ChangeSpec) : _root_.Go.OpenSpec := { _root_.Go.OpenSpec.ofChange s with cond := some uptoSmall }

/-- 'copyholdlaw4.FilePlays', WHERE WHAT IT READS IS OF BULK AT MOST 1048576: true; the input reads as it did. -/
def filePlaysUptoRow : OpenClaim := { program := "ytabcchadjgnldaa", sum := "3837420e2fc67495d70a0ea2cd94148cbe70b2d8537e21d07196c81be08f0162", func := "copyhold/copyholdlaw4.FilePlays", spec := "filePlays", inPlace := ["internal/reflectlite.TypeOf"], unfollowed := true, recurses := true, apart := false, narrowed := true }
def FilePlaysUptoSaid : Prop := filePlaysUptoRow.holds Try.pinned (OpenSpec.upto filePlaysSpec)

/-- 'copyholdlaw4.FileCopies', WHERE WHAT IT READS IS OF BULK AT MOST 1048576: true; the input reads as it did. -/
def fileCopiesUptoRow : OpenClaim := { program := "ytabcchadjgnldaa", sum := "3837420e2fc67495d70a0ea2cd94148cbe70b2d8537e21d07196c81be08f0162", func := "copyhold/copyholdlaw4.FileCopies", spec := "fileCopies", inPlace := ["internal/reflectlite.TypeOf"], unfollowed := true, recurses := true, apart := false, narrowed := true }
def FileCopiesUptoSaid : Prop := fileCopiesUptoRow.holds Try.pinned (OpenSpec.upto fileCopiesSpec)

/-- 'copyholdlaw4.FileSynced', WHERE WHAT IT READS IS OF BULK AT MOST 1048576: true; the input reads as it did. -/
def fileSyncedUptoRow : OpenClaim := { program := "ytabcchadjgnldaa", sum := "3837420e2fc67495d70a0ea2cd94148cbe70b2d8537e21d07196c81be08f0162", func := "copyhold/copyholdlaw4.FileSynced", spec := "fileSynced", inPlace := ["internal/reflectlite.TypeOf"], unfollowed := true, recurses := true, apart := false, narrowed := true }
def FileSyncedUptoSaid : Prop := fileSyncedUptoRow.holds Try.pinned (OpenSpec.upto fileSyncedSpec)

/-- 'copyholdlaw4.FileKept', WHERE WHAT IT READS IS OF BULK AT MOST 1048576: true; the input reads as it did. -/
def fileKeptUptoRow : OpenClaim := { program := "ytabcchadjgnldaa", sum := "3837420e2fc67495d70a0ea2cd94148cbe70b2d8537e21d07196c81be08f0162", func := "copyhold/copyholdlaw4.FileKept", spec := "fileKept", inPlace := ["internal/reflectlite.TypeOf"], unfollowed := true, recurses := true, apart := false, narrowed := true }
def FileKeptUptoSaid : Prop := fileKeptUptoRow.holds Try.pinned (OpenSpec.upto fileKeptSpec)

/-- 'copyholdlaw4.FileLoose', WHERE WHAT IT READS IS OF BULK AT MOST 1048576: true; the input reads as it did. -/
def fileLooseUptoRow : OpenClaim := { program := "ytabcchadjgnldaa", sum := "3837420e2fc67495d70a0ea2cd94148cbe70b2d8537e21d07196c81be08f0162", func := "copyhold/copyholdlaw4.FileLoose", spec := "fileLoose", inPlace := ["internal/reflectlite.TypeOf"], unfollowed := true, recurses := true, apart := false, narrowed := true }
def FileLooseUptoSaid : Prop := fileLooseUptoRow.holds Try.pinned (OpenSpec.upto fileLooseSpec)

end Rows
end Go.Proofs.Ytabcchadjgnldaa
