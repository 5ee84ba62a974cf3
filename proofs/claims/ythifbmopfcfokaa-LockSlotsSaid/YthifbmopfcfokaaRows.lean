/-
  No cell of these rows narrows 'for every input' (looked for: loops, veiled, ifaces, maps, wideKeys, modest, calm, conditions, laid).
  DERIVED. THE GIVEN ROWS OF THIS SEAT. 11 by the template 'for every input the law returns true; each argument reads behind the call as it read before'; 0 by the template 'total and deterministic' (their statements: YthifbmopfcfokaaTotals.lean).
  GIVEN WITH THE SEED: the statements are not yours to turn. If you find one false, say at which input.
  Laid BY PROGRAM, IN A SANDBOX (cutbox-rows.mjs): the forced cells as the released guide's own fill.sh prints them over the translation ebc5271dcf612386… (all of the seat's roots in one cut). By AI agents, Wed Nov 11 2026. No macro, syntax, notation, axiom, sorry.
-/
import Derived.Test.YthifbmopfcfokaaChecked
import GoSem.Claim
import GoSem.ClaimJoined
import GoSem.ClaimMapViews
import Derived.JoinedTies
import Derived.KernelRfl
namespace Go.Proofs.Ythifbmopfcfokaa
/- THE CELL 'sum', in the pinned program and in every row, IS THE sha256 OF THE DUMP (.gsa) THAT YthifbmopfcfokaaProg.lean LOADS. Nothing in Lean hashes anything: it is a label: what it is worth is what the hold of that sum in a sandbox is worth. -/
noncomputable def Try.pinned : Pinned := { name := "ythifbmopfcfokaa", sum := "ebc5271dcf612386c49a5c6c80c9b8871f782425e5e9cc4e373dbdc95ab597b0", checked := Try.checked }
namespace Rows
def none {H : Type} : Left H := { results := [], args := [] }

/-- 'copyholdlaw1.PackTells': WHATEVER THE INPUT: true; the input reads as it did. -/
def packTellsSpec : ChangeSpec := { name := "packTells", fn := fun _ => fun
  | [d1, d2, d3, d4] => { results := [.lit (.bool true)], args := [d1, d2, d3, d4] }
  | _ => none }
def packTellsRow : OpenClaim := { program := "ythifbmopfcfokaa", sum := "ebc5271dcf612386c49a5c6c80c9b8871f782425e5e9cc4e373dbdc95ab597b0", func := "copyhold/copyholdlaw1.PackTells", spec := "packTells", inPlace := ["internal/reflectlite.TypeOf"], unfollowed := true, recurses := true, apart := false }
def PackTellsSaid : Prop := packTellsRow.holds Try.pinned (OpenSpec.ofChange packTellsSpec)

/-- ITS FALSE NEIGHBOUR: 'it returns false'. Refute it at one input. -/
def packTellsWrong : ChangeSpec := { name := "packTells", fn := fun _ => fun
  | [d1, d2, d3, d4] => { results := [.lit (.bool false)], args := [d1, d2, d3, d4] }
  | _ => none }
def PackTellsWrongFalsely : Prop := packTellsRow.holds Try.pinned (OpenSpec.ofChange packTellsWrong)

/-- 'copyholdlaw1.PackRows': WHATEVER THE INPUT: true; the input reads as it did. -/
def packRowsSpec : ChangeSpec := { name := "packRows", fn := fun _ => fun
  | [d1, d2, d3, d4] => { results := [.lit (.bool true)], args := [d1, d2, d3, d4] }
  | _ => none }
def packRowsRow : OpenClaim := { program := "ythifbmopfcfokaa", sum := "ebc5271dcf612386c49a5c6c80c9b8871f782425e5e9cc4e373dbdc95ab597b0", func := "copyhold/copyholdlaw1.PackRows", spec := "packRows", inPlace := ["internal/reflectlite.TypeOf"], unfollowed := true, recurses := true, apart := false }
def PackRowsSaid : Prop := packRowsRow.holds Try.pinned (OpenSpec.ofChange packRowsSpec)

/-- ITS FALSE NEIGHBOUR: 'it returns false'. Refute it at one input. -/
def packRowsWrong : ChangeSpec := { name := "packRows", fn := fun _ => fun
  | [d1, d2, d3, d4] => { results := [.lit (.bool false)], args := [d1, d2, d3, d4] }
  | _ => none }
def PackRowsWrongFalsely : Prop := packRowsRow.holds Try.pinned (OpenSpec.ofChange packRowsWrong)

/-- 'copyholdlaw1.PackShort': WHATEVER THE INPUT: true; the input reads as it did. -/
def packShortSpec : ChangeSpec := { name := "packShort", fn := fun _ => fun
  | [d1, d2, d3] => { results := [.lit (.bool true)], args := [d1, d2, d3] }
  | _ => none }
def packShortRow : OpenClaim := { program := "ythifbmopfcfokaa", sum := "ebc5271dcf612386c49a5c6c80c9b8871f782425e5e9cc4e373dbdc95ab597b0", func := "copyhold/copyholdlaw1.PackShort", spec := "packShort", inPlace := ["internal/reflectlite.TypeOf"], unfollowed := true, recurses := true, apart := false }
def PackShortSaid : Prop := packShortRow.holds Try.pinned (OpenSpec.ofChange packShortSpec)

/-- ITS FALSE NEIGHBOUR: 'it returns false'. Refute it at one input. -/
def packShortWrong : ChangeSpec := { name := "packShort", fn := fun _ => fun
  | [d1, d2, d3] => { results := [.lit (.bool false)], args := [d1, d2, d3] }
  | _ => none }
def PackShortWrongFalsely : Prop := packShortRow.holds Try.pinned (OpenSpec.ofChange packShortWrong)

/-- 'copyholdlaw1.PackOrder': WHATEVER THE INPUT: true; the input reads as it did. -/
def packOrderSpec : ChangeSpec := { name := "packOrder", fn := fun _ => fun
  | [d1, d2] => { results := [.lit (.bool true)], args := [d1, d2] }
  | _ => none }
def packOrderRow : OpenClaim := { program := "ythifbmopfcfokaa", sum := "ebc5271dcf612386c49a5c6c80c9b8871f782425e5e9cc4e373dbdc95ab597b0", func := "copyhold/copyholdlaw1.PackOrder", spec := "packOrder", inPlace := ["internal/reflectlite.TypeOf"], unfollowed := true, recurses := true, apart := false }
def PackOrderSaid : Prop := packOrderRow.holds Try.pinned (OpenSpec.ofChange packOrderSpec)

/-- ITS FALSE NEIGHBOUR: 'it returns false'. Refute it at one input. -/
def packOrderWrong : ChangeSpec := { name := "packOrder", fn := fun _ => fun
  | [d1, d2] => { results := [.lit (.bool false)], args := [d1, d2] }
  | _ => none }
def PackOrderWrongFalsely : Prop := packOrderRow.holds Try.pinned (OpenSpec.ofChange packOrderWrong)

/-- 'copyholdlaw5.ProcsPlays': WHATEVER THE INPUT: true; the input reads as it did. -/
def procsPlaysSpec : ChangeSpec := { name := "procsPlays", fn := fun _ => fun
  | [d] => { results := [.lit (.bool true)], args := [d] }
  | _ => none }
def procsPlaysRow : OpenClaim := { program := "ythifbmopfcfokaa", sum := "ebc5271dcf612386c49a5c6c80c9b8871f782425e5e9cc4e373dbdc95ab597b0", func := "copyhold/copyholdlaw5.ProcsPlays", spec := "procsPlays", inPlace := ["internal/reflectlite.TypeOf"], unfollowed := true, recurses := true, apart := false }
def ProcsPlaysSaid : Prop := procsPlaysRow.holds Try.pinned (OpenSpec.ofChange procsPlaysSpec)

/-- ITS FALSE NEIGHBOUR: 'it returns false'. Refute it at one input. -/
def procsPlaysWrong : ChangeSpec := { name := "procsPlays", fn := fun _ => fun
  | [d] => { results := [.lit (.bool false)], args := [d] }
  | _ => none }
def ProcsPlaysWrongFalsely : Prop := procsPlaysRow.holds Try.pinned (OpenSpec.ofChange procsPlaysWrong)

/-- 'copyholdlaw5.ProcsMany': WHATEVER THE INPUT: true; the input reads as it did. -/
def procsManySpec : ChangeSpec := { name := "procsMany", fn := fun _ => fun
  | [d] => { results := [.lit (.bool true)], args := [d] }
  | _ => none }
def procsManyRow : OpenClaim := { program := "ythifbmopfcfokaa", sum := "ebc5271dcf612386c49a5c6c80c9b8871f782425e5e9cc4e373dbdc95ab597b0", func := "copyhold/copyholdlaw5.ProcsMany", spec := "procsMany", inPlace := ["internal/reflectlite.TypeOf"], unfollowed := true, recurses := true, apart := false }
def ProcsManySaid : Prop := procsManyRow.holds Try.pinned (OpenSpec.ofChange procsManySpec)

/-- ITS FALSE NEIGHBOUR: 'it returns false'. Refute it at one input. -/
def procsManyWrong : ChangeSpec := { name := "procsMany", fn := fun _ => fun
  | [d] => { results := [.lit (.bool false)], args := [d] }
  | _ => none }
def ProcsManyWrongFalsely : Prop := procsManyRow.holds Try.pinned (OpenSpec.ofChange procsManyWrong)

/-- 'copyholdlaw5.ProcsNever': WHATEVER THE INPUT: true; the input reads as it did. -/
def procsNeverSpec : ChangeSpec := { name := "procsNever", fn := fun _ => fun
  | [d] => { results := [.lit (.bool true)], args := [d] }
  | _ => none }
def procsNeverRow : OpenClaim := { program := "ythifbmopfcfokaa", sum := "ebc5271dcf612386c49a5c6c80c9b8871f782425e5e9cc4e373dbdc95ab597b0", func := "copyhold/copyholdlaw5.ProcsNever", spec := "procsNever", inPlace := ["internal/reflectlite.TypeOf"], unfollowed := true, recurses := true, apart := false }
def ProcsNeverSaid : Prop := procsNeverRow.holds Try.pinned (OpenSpec.ofChange procsNeverSpec)

/-- ITS FALSE NEIGHBOUR: 'it returns false'. Refute it at one input. -/
def procsNeverWrong : ChangeSpec := { name := "procsNever", fn := fun _ => fun
  | [d] => { results := [.lit (.bool false)], args := [d] }
  | _ => none }
def ProcsNeverWrongFalsely : Prop := procsNeverRow.holds Try.pinned (OpenSpec.ofChange procsNeverWrong)

/-- 'copyholdlaw6.LockOldest': WHATEVER THE INPUT: true; the input reads as it did. -/
def lockOldestSpec : ChangeSpec := { name := "lockOldest", fn := fun _ => fun
  | [d1, d2] => { results := [.lit (.bool true)], args := [d1, d2] }
  | _ => none }
def lockOldestRow : OpenClaim := { program := "ythifbmopfcfokaa", sum := "ebc5271dcf612386c49a5c6c80c9b8871f782425e5e9cc4e373dbdc95ab597b0", func := "copyhold/copyholdlaw6.LockOldest", spec := "lockOldest", inPlace := ["internal/reflectlite.TypeOf"], unfollowed := true, recurses := true, apart := false }
def LockOldestSaid : Prop := lockOldestRow.holds Try.pinned (OpenSpec.ofChange lockOldestSpec)

/-- ITS FALSE NEIGHBOUR: 'it returns false'. Refute it at one input. -/
def lockOldestWrong : ChangeSpec := { name := "lockOldest", fn := fun _ => fun
  | [d1, d2] => { results := [.lit (.bool false)], args := [d1, d2] }
  | _ => none }
def LockOldestWrongFalsely : Prop := lockOldestRow.holds Try.pinned (OpenSpec.ofChange lockOldestWrong)

/-- 'copyholdlaw6.LockSlots': WHATEVER THE INPUT: true; the input reads as it did. -/
def lockSlotsSpec : ChangeSpec := { name := "lockSlots", fn := fun _ => fun
  | [d1, d2] => { results := [.lit (.bool true)], args := [d1, d2] }
  | _ => none }
def lockSlotsRow : OpenClaim := { program := "ythifbmopfcfokaa", sum := "ebc5271dcf612386c49a5c6c80c9b8871f782425e5e9cc4e373dbdc95ab597b0", func := "copyhold/copyholdlaw6.LockSlots", spec := "lockSlots", inPlace := ["internal/reflectlite.TypeOf"], unfollowed := true, recurses := true, apart := false }
def LockSlotsSaid : Prop := lockSlotsRow.holds Try.pinned (OpenSpec.ofChange lockSlotsSpec)

/-- ITS FALSE NEIGHBOUR: 'it returns false'. Refute it at one input. -/
def lockSlotsWrong : ChangeSpec := { name := "lockSlots", fn := fun _ => fun
  | [d1, d2] => { results := [.lit (.bool false)], args := [d1, d2] }
  | _ => none }
def LockSlotsWrongFalsely : Prop := lockSlotsRow.holds Try.pinned (OpenSpec.ofChange lockSlotsWrong)

/-- 'copyholdlaw6.LockOne': WHATEVER THE INPUT: true; the input reads as it did. -/
def lockOneSpec : ChangeSpec := { name := "lockOne", fn := fun _ => fun
  | [d] => { results := [.lit (.bool true)], args := [d] }
  | _ => none }
def lockOneRow : OpenClaim := { program := "ythifbmopfcfokaa", sum := "ebc5271dcf612386c49a5c6c80c9b8871f782425e5e9cc4e373dbdc95ab597b0", func := "copyhold/copyholdlaw6.LockOne", spec := "lockOne", inPlace := ["internal/reflectlite.TypeOf"], unfollowed := true, recurses := true, apart := false }
def LockOneSaid : Prop := lockOneRow.holds Try.pinned (OpenSpec.ofChange lockOneSpec)

/-- ITS FALSE NEIGHBOUR: 'it returns false'. Refute it at one input. -/
def lockOneWrong : ChangeSpec := { name := "lockOne", fn := fun _ => fun
  | [d] => { results := [.lit (.bool false)], args := [d] }
  | _ => none }
def LockOneWrongFalsely : Prop := lockOneRow.holds Try.pinned (OpenSpec.ofChange lockOneWrong)

/-- 'copyholdlaw6.LockDeath': WHATEVER THE INPUT: true; the input reads as it did. -/
def lockDeathSpec : ChangeSpec := { name := "lockDeath", fn := fun _ => fun
  | [d1, d2, d3] => { results := [.lit (.bool true)], args := [d1, d2, d3] }
  | _ => none }
def lockDeathRow : OpenClaim := { program := "ythifbmopfcfokaa", sum := "ebc5271dcf612386c49a5c6c80c9b8871f782425e5e9cc4e373dbdc95ab597b0", func := "copyhold/copyholdlaw6.LockDeath", spec := "lockDeath", inPlace := ["internal/reflectlite.TypeOf"], unfollowed := true, recurses := true, apart := false }
def LockDeathSaid : Prop := lockDeathRow.holds Try.pinned (OpenSpec.ofChange lockDeathSpec)

/-- ITS FALSE NEIGHBOUR: 'it returns false'. Refute it at one input. -/
def lockDeathWrong : ChangeSpec := { name := "lockDeath", fn := fun _ => fun
  | [d1, d2, d3] => { results := [.lit (.bool false)], args := [d1, d2, d3] }
  | _ => none }
def LockDeathWrongFalsely : Prop := lockDeathRow.holds Try.pinned (OpenSpec.ofChange lockDeathWrong)

/- THE SECOND FORM. 'bulk': how many values and letters a reading holds, each counted each time it is reached (what is shared counts as often as it is met; a slice's spare places count too). A statement '..UptoSaid' is the law's where the arguments, and the package variables that the reading takes, are together of bulk at most 1048576: NARROWER than '..Said'. Prove '..Said' where nothing that the law and all that it calls make is longer than what came in: it says more and counts as full. Else prove '..UptoSaid'. A law counts once. -/
mutual
def uptoBulk {H : Type} : DataW H → Nat
  | .lit (.string bytes) => bytes.length + 1
  | .lit _ => 1
  | .nil => 1
  | .ptr d => uptoBulk d + 1
  | .slice elems spare => uptoBulkAll elems + uptoBulkAll spare + 1
  | .agg parts => uptoBulkAll parts + 1
  | .iface _ d => uptoBulk d + 1
  | .map entries => uptoBulkEntries entries + 1
  | .held _ => 1
def uptoBulkAll {H : Type} : List (DataW H) → Nat
  | [] => 0
  | d :: r => uptoBulk d + uptoBulkAll r
def uptoBulkEntries {H : Type} : List (Lit × DataW H) → Nat
  | [] => 0
  | x :: r => uptoBulkEntry x + uptoBulkEntries r
def uptoBulkEntry {H : Type} : Lit × DataW H → Nat
  | (.string bytes, d) => bytes.length + uptoBulk d + 1
  | (_, d) => uptoBulk d + 1
 end
def uptoSmall : (H : Type) → List (DataW H) → Bool := fun _ ds => decide (uptoBulkAll ds ≤ 1048576)
def OpenSpec.upto (s : _root_.Go.ChangeSpec) : _root_.Go.OpenSpec := { _root_.Go.OpenSpec.ofChange s with cond := some uptoSmall }

/-- 'copyholdlaw1.PackTells', WHERE WHAT IT READS IS OF BULK AT MOST 1048576: true; the input reads as it did. -/
def packTellsUptoRow : OpenClaim := { program := "ythifbmopfcfokaa", sum := "ebc5271dcf612386c49a5c6c80c9b8871f782425e5e9cc4e373dbdc95ab597b0", func := "copyhold/copyholdlaw1.PackTells", spec := "packTells", inPlace := ["internal/reflectlite.TypeOf"], unfollowed := true, recurses := true, apart := false, narrowed := true }
def PackTellsUptoSaid : Prop := packTellsUptoRow.holds Try.pinned (OpenSpec.upto packTellsSpec)

/-- 'copyholdlaw1.PackRows', WHERE WHAT IT READS IS OF BULK AT MOST 1048576: true; the input reads as it did. -/
def packRowsUptoRow : OpenClaim := { program := "ythifbmopfcfokaa", sum := "ebc5271dcf612386c49a5c6c80c9b8871f782425e5e9cc4e373dbdc95ab597b0", func := "copyhold/copyholdlaw1.PackRows", spec := "packRows", inPlace := ["internal/reflectlite.TypeOf"], unfollowed := true, recurses := true, apart := false, narrowed := true }
def PackRowsUptoSaid : Prop := packRowsUptoRow.holds Try.pinned (OpenSpec.upto packRowsSpec)

/-- 'copyholdlaw1.PackShort', WHERE WHAT IT READS IS OF BULK AT MOST 1048576: true; the input reads as it did. -/
def packShortUptoRow : OpenClaim := { program := "ythifbmopfcfokaa", sum := "ebc5271dcf612386c49a5c6c80c9b8871f782425e5e9cc4e373dbdc95ab597b0", func := "copyhold/copyholdlaw1.PackShort", spec := "packShort", inPlace := ["internal/reflectlite.TypeOf"], unfollowed := true, recurses := true, apart := false, narrowed := true }
def PackShortUptoSaid : Prop := packShortUptoRow.holds Try.pinned (OpenSpec.upto packShortSpec)

/-- 'copyholdlaw1.PackOrder', WHERE WHAT IT READS IS OF BULK AT MOST 1048576: true; the input reads as it did. -/
def packOrderUptoRow : OpenClaim := { program := "ythifbmopfcfokaa", sum := "ebc5271dcf612386c49a5c6c80c9b8871f782425e5e9cc4e373dbdc95ab597b0", func := "copyhold/copyholdlaw1.PackOrder", spec := "packOrder", inPlace := ["internal/reflectlite.TypeOf"], unfollowed := true, recurses := true, apart := false, narrowed := true }
def PackOrderUptoSaid : Prop := packOrderUptoRow.holds Try.pinned (OpenSpec.upto packOrderSpec)

/-- 'copyholdlaw5.ProcsPlays', WHERE WHAT IT READS IS OF BULK AT MOST 1048576: true; the input reads as it did. -/
def procsPlaysUptoRow : OpenClaim := { program := "ythifbmopfcfokaa", sum := "ebc5271dcf612386c49a5c6c80c9b8871f782425e5e9cc4e373dbdc95ab597b0", func := "copyhold/copyholdlaw5.ProcsPlays", spec := "procsPlays", inPlace := ["internal/reflectlite.TypeOf"], unfollowed := true, recurses := true, apart := false, narrowed := true }
def ProcsPlaysUptoSaid : Prop := procsPlaysUptoRow.holds Try.pinned (OpenSpec.upto procsPlaysSpec)

/-- 'copyholdlaw5.ProcsMany', WHERE WHAT IT READS IS OF BULK AT MOST 1048576: true; the input reads as it did. -/
def procsManyUptoRow : OpenClaim := { program := "ythifbmopfcfokaa", sum := "ebc5271dcf612386c49a5c6c80c9b8871f782425e5e9cc4e373dbdc95ab597b0", func := "copyhold/copyholdlaw5.ProcsMany", spec := "procsMany", inPlace := ["internal/reflectlite.TypeOf"], unfollowed := true, recurses := true, apart := false, narrowed := true }
def ProcsManyUptoSaid : Prop := procsManyUptoRow.holds Try.pinned (OpenSpec.upto procsManySpec)

/-- 'copyholdlaw5.ProcsNever', WHERE WHAT IT READS IS OF BULK AT MOST 1048576: true; the input reads as it did. -/
def procsNeverUptoRow : OpenClaim := { program := "ythifbmopfcfokaa", sum := "ebc5271dcf612386c49a5c6c80c9b8871f782425e5e9cc4e373dbdc95ab597b0", func := "copyhold/copyholdlaw5.ProcsNever", spec := "procsNever", inPlace := ["internal/reflectlite.TypeOf"], unfollowed := true, recurses := true, apart := false, narrowed := true }
def ProcsNeverUptoSaid : Prop := procsNeverUptoRow.holds Try.pinned (OpenSpec.upto procsNeverSpec)

/-- 'copyholdlaw6.LockOldest', WHERE WHAT IT READS IS OF BULK AT MOST 1048576: true; the input reads as it did. -/
def lockOldestUptoRow : OpenClaim := { program := "ythifbmopfcfokaa", sum := "ebc5271dcf612386c49a5c6c80c9b8871f782425e5e9cc4e373dbdc95ab597b0", func := "copyhold/copyholdlaw6.LockOldest", spec := "lockOldest", inPlace := ["internal/reflectlite.TypeOf"], unfollowed := true, recurses := true, apart := false, narrowed := true }
def LockOldestUptoSaid : Prop := lockOldestUptoRow.holds Try.pinned (OpenSpec.upto lockOldestSpec)

/-- 'copyholdlaw6.LockSlots', WHERE WHAT IT READS IS OF BULK AT MOST 1048576: true; the input reads as it did. -/
def lockSlotsUptoRow : OpenClaim := { program := "ythifbmopfcfokaa", sum := "ebc5271dcf612386c49a5c6c80c9b8871f782425e5e9cc4e373dbdc95ab597b0", func := "copyhold/copyholdlaw6.LockSlots", spec := "lockSlots", inPlace := ["internal/reflectlite.TypeOf"], unfollowed := true, recurses := true, apart := false, narrowed := true }
def LockSlotsUptoSaid : Prop := lockSlotsUptoRow.holds Try.pinned (OpenSpec.upto lockSlotsSpec)

/-- 'copyholdlaw6.LockOne', WHERE WHAT IT READS IS OF BULK AT MOST 1048576: true; the input reads as it did. -/
def lockOneUptoRow : OpenClaim := { program := "ythifbmopfcfokaa", sum := "ebc5271dcf612386c49a5c6c80c9b8871f782425e5e9cc4e373dbdc95ab597b0", func := "copyhold/copyholdlaw6.LockOne", spec := "lockOne", inPlace := ["internal/reflectlite.TypeOf"], unfollowed := true, recurses := true, apart := false, narrowed := true }
def LockOneUptoSaid : Prop := lockOneUptoRow.holds Try.pinned (OpenSpec.upto lockOneSpec)

/-- 'copyholdlaw6.LockDeath', WHERE WHAT IT READS IS OF BULK AT MOST 1048576: true; the input reads as it did. -/
def lockDeathUptoRow : OpenClaim := { program := "ythifbmopfcfokaa", sum := "ebc5271dcf612386c49a5c6c80c9b8871f782425e5e9cc4e373dbdc95ab597b0", func := "copyhold/copyholdlaw6.LockDeath", spec := "lockDeath", inPlace := ["internal/reflectlite.TypeOf"], unfollowed := true, recurses := true, apart := false, narrowed := true }
def LockDeathUptoSaid : Prop := lockDeathUptoRow.holds Try.pinned (OpenSpec.upto lockDeathSpec)

end Rows
end Go.Proofs.Ythifbmopfcfokaa
