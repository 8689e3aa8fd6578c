/-
  No cell of these rows narrows 'for every input' (looked for: loops, veiled, ifaces, maps, wideKeys, modest, calm, conditions, laid).
  DERIVED. THE GIVEN ROWS OF THIS SEAT. 10 by the template 'for every input the law returns true; each argument reads behind the call as it read before'; 0 by the template 'total and deterministic' (their statements: YtibdneedfopcoaaTotals.lean).
  GIVEN WITH THE SEED: the statements are not yours to turn. If you find one false, say at which input.
  Laid BY PROGRAM, IN A SANDBOX (cutbox-rows.mjs): the forced cells as the released guide's own fill.sh prints them over the translation c41a60c7333fe0f7… (all of the seat's roots in one cut). By AI agents, Wed Nov 11 2026. No macro, syntax, notation, axiom, sorry.
-/
import Derived.Test.YtibdneedfopcoaaChecked
import GoSem.Claim
import GoSem.ClaimJoined
import GoSem.ClaimMapViews
import Derived.JoinedTies
import Derived.KernelRfl
namespace Go.Proofs.Ytibdneedfopcoaa
/- THE CELL 'sum', in the pinned program and in every row, IS THE sha256 OF THE DUMP (.gsa) THAT YtibdneedfopcoaaProg.lean LOADS. Nothing in Lean hashes anything: it is a label: what it is worth is what the hold of that sum in a sandbox is worth. -/
noncomputable def Try.pinned : Pinned := { name := "ytibdneedfopcoaa", sum := "c41a60c7333fe0f767d6928e1e770900f6d3e1f830e7200e6dc805689fd30ce8", checked := Try.checked }
namespace Rows
def none {H : Type} : Left H := { results := [], args := [] }

/-- 'outworkerlaw04.IrChecks': WHATEVER THE INPUT: true; the input reads as it did. -/
def irChecksSpec : ChangeSpec := { name := "irChecks", fn := fun _ => fun
  | [d1, d2, d3, d4, d5, d6] => { results := [.lit (.bool true)], args := [d1, d2, d3, d4, d5, d6] }
  | _ => none }
def irChecksRow : OpenClaim := { program := "ytibdneedfopcoaa", sum := "c41a60c7333fe0f767d6928e1e770900f6d3e1f830e7200e6dc805689fd30ce8", func := "outworker/outworkerlaw04.IrChecks", spec := "irChecks", apart := false }
def IrChecksSaid : Prop := irChecksRow.holds Try.pinned (OpenSpec.ofChange irChecksSpec)

/-- ITS FALSE NEIGHBOUR: 'it returns false'. Refute it at one input. -/
def irChecksWrong : ChangeSpec := { name := "irChecks", fn := fun _ => fun
  | [d1, d2, d3, d4, d5, d6] => { results := [.lit (.bool false)], args := [d1, d2, d3, d4, d5, d6] }
  | _ => none }
def IrChecksWrongFalsely : Prop := irChecksRow.holds Try.pinned (OpenSpec.ofChange irChecksWrong)

/-- 'outworkerlaw04.IrUses': WHATEVER THE INPUT: true; the input reads as it did. -/
def irUsesSpec : ChangeSpec := { name := "irUses", fn := fun _ => fun
  | [d1, d2] => { results := [.lit (.bool true)], args := [d1, d2] }
  | _ => none }
def irUsesRow : OpenClaim := { program := "ytibdneedfopcoaa", sum := "c41a60c7333fe0f767d6928e1e770900f6d3e1f830e7200e6dc805689fd30ce8", func := "outworker/outworkerlaw04.IrUses", spec := "irUses", apart := false }
def IrUsesSaid : Prop := irUsesRow.holds Try.pinned (OpenSpec.ofChange irUsesSpec)

/-- ITS FALSE NEIGHBOUR: 'it returns false'. Refute it at one input. -/
def irUsesWrong : ChangeSpec := { name := "irUses", fn := fun _ => fun
  | [d1, d2] => { results := [.lit (.bool false)], args := [d1, d2] }
  | _ => none }
def IrUsesWrongFalsely : Prop := irUsesRow.holds Try.pinned (OpenSpec.ofChange irUsesWrong)

/-- 'outworkerlaw04.IrEnds': WHATEVER THE INPUT: true; the input reads as it did. -/
def irEndsSpec : ChangeSpec := { name := "irEnds", fn := fun _ => fun
  | [d1, d2, d3] => { results := [.lit (.bool true)], args := [d1, d2, d3] }
  | _ => none }
def irEndsRow : OpenClaim := { program := "ytibdneedfopcoaa", sum := "c41a60c7333fe0f767d6928e1e770900f6d3e1f830e7200e6dc805689fd30ce8", func := "outworker/outworkerlaw04.IrEnds", spec := "irEnds", apart := false }
def IrEndsSaid : Prop := irEndsRow.holds Try.pinned (OpenSpec.ofChange irEndsSpec)

/-- ITS FALSE NEIGHBOUR: 'it returns false'. Refute it at one input. -/
def irEndsWrong : ChangeSpec := { name := "irEnds", fn := fun _ => fun
  | [d1, d2, d3] => { results := [.lit (.bool false)], args := [d1, d2, d3] }
  | _ => none }
def IrEndsWrongFalsely : Prop := irEndsRow.holds Try.pinned (OpenSpec.ofChange irEndsWrong)

/-- 'outworkerlaw04.IrOnly': WHATEVER THE INPUT: true; the input reads as it did. -/
def irOnlySpec : ChangeSpec := { name := "irOnly", fn := fun _ => fun
  | [d1, d2, d3, d4, d5, d6] => { results := [.lit (.bool true)], args := [d1, d2, d3, d4, d5, d6] }
  | _ => none }
def irOnlyRow : OpenClaim := { program := "ytibdneedfopcoaa", sum := "c41a60c7333fe0f767d6928e1e770900f6d3e1f830e7200e6dc805689fd30ce8", func := "outworker/outworkerlaw04.IrOnly", spec := "irOnly", unfollowed := true, recurses := true, apart := false }
def IrOnlySaid : Prop := irOnlyRow.holds Try.pinned (OpenSpec.ofChange irOnlySpec)

/-- ITS FALSE NEIGHBOUR: 'it returns false'. Refute it at one input. -/
def irOnlyWrong : ChangeSpec := { name := "irOnly", fn := fun _ => fun
  | [d1, d2, d3, d4, d5, d6] => { results := [.lit (.bool false)], args := [d1, d2, d3, d4, d5, d6] }
  | _ => none }
def IrOnlyWrongFalsely : Prop := irOnlyRow.holds Try.pinned (OpenSpec.ofChange irOnlyWrong)

/-- 'outworkerlaw04.IrTwice': WHATEVER THE INPUT: true; the input reads as it did. -/
def irTwiceSpec : ChangeSpec := { name := "irTwice", fn := fun _ => fun
  | [d] => { results := [.lit (.bool true)], args := [d] }
  | _ => none }
def irTwiceRow : OpenClaim := { program := "ytibdneedfopcoaa", sum := "c41a60c7333fe0f767d6928e1e770900f6d3e1f830e7200e6dc805689fd30ce8", func := "outworker/outworkerlaw04.IrTwice", spec := "irTwice", apart := false }
def IrTwiceSaid : Prop := irTwiceRow.holds Try.pinned (OpenSpec.ofChange irTwiceSpec)

/-- ITS FALSE NEIGHBOUR: 'it returns false'. Refute it at one input. -/
def irTwiceWrong : ChangeSpec := { name := "irTwice", fn := fun _ => fun
  | [d] => { results := [.lit (.bool false)], args := [d] }
  | _ => none }
def IrTwiceWrongFalsely : Prop := irTwiceRow.holds Try.pinned (OpenSpec.ofChange irTwiceWrong)

/-- 'outworkerlaw04.IrCopied': WHATEVER THE INPUT: true; the input reads as it did. -/
def irCopiedSpec : ChangeSpec := { name := "irCopied", fn := fun _ => fun
  | [d1, d2, d3, d4, d5] => { results := [.lit (.bool true)], args := [d1, d2, d3, d4, d5] }
  | _ => none }
def irCopiedRow : OpenClaim := { program := "ytibdneedfopcoaa", sum := "c41a60c7333fe0f767d6928e1e770900f6d3e1f830e7200e6dc805689fd30ce8", func := "outworker/outworkerlaw04.IrCopied", spec := "irCopied", apart := false }
def IrCopiedSaid : Prop := irCopiedRow.holds Try.pinned (OpenSpec.ofChange irCopiedSpec)

/-- ITS FALSE NEIGHBOUR: 'it returns false'. Refute it at one input. -/
def irCopiedWrong : ChangeSpec := { name := "irCopied", fn := fun _ => fun
  | [d1, d2, d3, d4, d5] => { results := [.lit (.bool false)], args := [d1, d2, d3, d4, d5] }
  | _ => none }
def IrCopiedWrongFalsely : Prop := irCopiedRow.holds Try.pinned (OpenSpec.ofChange irCopiedWrong)

/-- 'outworkerlaw05.MachChecks': WHATEVER THE INPUT: true; the input reads as it did. -/
def machChecksSpec : ChangeSpec := { name := "machChecks", fn := fun _ => fun
  | [d1, d2, d3, d4, d5, d6, d7, d8, d9] => { results := [.lit (.bool true)], args := [d1, d2, d3, d4, d5, d6, d7, d8, d9] }
  | _ => none }
def machChecksRow : OpenClaim := { program := "ytibdneedfopcoaa", sum := "c41a60c7333fe0f767d6928e1e770900f6d3e1f830e7200e6dc805689fd30ce8", func := "outworker/outworkerlaw05.MachChecks", spec := "machChecks", unfollowed := true, recurses := true, apart := false }
def MachChecksSaid : Prop := machChecksRow.holds Try.pinned (OpenSpec.ofChange machChecksSpec)

/-- ITS FALSE NEIGHBOUR: 'it returns false'. Refute it at one input. -/
def machChecksWrong : ChangeSpec := { name := "machChecks", fn := fun _ => fun
  | [d1, d2, d3, d4, d5, d6, d7, d8, d9] => { results := [.lit (.bool false)], args := [d1, d2, d3, d4, d5, d6, d7, d8, d9] }
  | _ => none }
def MachChecksWrongFalsely : Prop := machChecksRow.holds Try.pinned (OpenSpec.ofChange machChecksWrong)

/-- 'outworkerlaw05.MachFree': WHATEVER THE INPUT: true; the input reads as it did. -/
def machFreeSpec : ChangeSpec := { name := "machFree", fn := fun _ => fun
  | [d] => { results := [.lit (.bool true)], args := [d] }
  | _ => none }
def machFreeRow : OpenClaim := { program := "ytibdneedfopcoaa", sum := "c41a60c7333fe0f767d6928e1e770900f6d3e1f830e7200e6dc805689fd30ce8", func := "outworker/outworkerlaw05.MachFree", spec := "machFree", apart := false }
def MachFreeSaid : Prop := machFreeRow.holds Try.pinned (OpenSpec.ofChange machFreeSpec)

/-- ITS FALSE NEIGHBOUR: 'it returns false'. Refute it at one input. -/
def machFreeWrong : ChangeSpec := { name := "machFree", fn := fun _ => fun
  | [d] => { results := [.lit (.bool false)], args := [d] }
  | _ => none }
def MachFreeWrongFalsely : Prop := machFreeRow.holds Try.pinned (OpenSpec.ofChange machFreeWrong)

/-- 'outworkerlaw05.MachOnly': WHATEVER THE INPUT: true; the input reads as it did. -/
def machOnlySpec : ChangeSpec := { name := "machOnly", fn := fun _ => fun
  | [d1, d2, d3, d4, d5] => { results := [.lit (.bool true)], args := [d1, d2, d3, d4, d5] }
  | _ => none }
def machOnlyRow : OpenClaim := { program := "ytibdneedfopcoaa", sum := "c41a60c7333fe0f767d6928e1e770900f6d3e1f830e7200e6dc805689fd30ce8", func := "outworker/outworkerlaw05.MachOnly", spec := "machOnly", unfollowed := true, recurses := true, apart := false }
def MachOnlySaid : Prop := machOnlyRow.holds Try.pinned (OpenSpec.ofChange machOnlySpec)

/-- ITS FALSE NEIGHBOUR: 'it returns false'. Refute it at one input. -/
def machOnlyWrong : ChangeSpec := { name := "machOnly", fn := fun _ => fun
  | [d1, d2, d3, d4, d5] => { results := [.lit (.bool false)], args := [d1, d2, d3, d4, d5] }
  | _ => none }
def MachOnlyWrongFalsely : Prop := machOnlyRow.holds Try.pinned (OpenSpec.ofChange machOnlyWrong)

/-- 'outworkerlaw05.MachSlots': WHATEVER THE INPUT: true; the input reads as it did. -/
def machSlotsSpec : ChangeSpec := { name := "machSlots", fn := fun _ => fun
  | [d1, d2, d3, d4, d5, d6] => { results := [.lit (.bool true)], args := [d1, d2, d3, d4, d5, d6] }
  | _ => none }
def machSlotsRow : OpenClaim := { program := "ytibdneedfopcoaa", sum := "c41a60c7333fe0f767d6928e1e770900f6d3e1f830e7200e6dc805689fd30ce8", func := "outworker/outworkerlaw05.MachSlots", spec := "machSlots", unfollowed := true, recurses := true, apart := false }
def MachSlotsSaid : Prop := machSlotsRow.holds Try.pinned (OpenSpec.ofChange machSlotsSpec)

/-- ITS FALSE NEIGHBOUR: 'it returns false'. Refute it at one input. -/
def machSlotsWrong : ChangeSpec := { name := "machSlots", fn := fun _ => fun
  | [d1, d2, d3, d4, d5, d6] => { results := [.lit (.bool false)], args := [d1, d2, d3, d4, d5, d6] }
  | _ => none }
def MachSlotsWrongFalsely : Prop := machSlotsRow.holds Try.pinned (OpenSpec.ofChange machSlotsWrong)

/- THE SECOND FORM. 'bulk': how many values and letters a reading holds, each counted each time it is reached (what is shared counts as often as it is met; a slice's spare places count too). A statement '..UptoSaid' is the law's where the arguments, and the package variables that the reading takes, are together of bulk at most 1048576: NARROWER than '..Said'. Prove '..Said' where nothing that the law and all that it calls make is longer than what came in: it says more and counts as full. Else prove '..UptoSaid'. A law counts once. -/
mutual
def uptoBulk {H : Type} : DataW H → Nat
  | .lit (.string bytes) => bytes.length + 1
  | .lit _ => 1
  | .nil => 1
  | .ptr d => uptoBulk d + 1
  | .slice elems spare => uptoBulkAll elems + uptoBulkAll spare + 1
  | .agg parts => uptoBulkAll parts + 1
  | .iface _ d => uptoBulk d + 1
  | .map entries => uptoBulkEntries entries + 1
  | .held _ => 1
def uptoBulkAll {H : Type} : List (DataW H) → Nat
  | [] => 0
  | d :: r => uptoBulk d + uptoBulkAll r
def uptoBulkEntries {H : Type} : List (Lit × DataW H) → Nat
  | [] => 0
  | x :: r => uptoBulkEntry x + uptoBulkEntries r
def uptoBulkEntry {H : Type} : Lit × DataW H → Nat
  | (.string bytes, d) => bytes.length + uptoBulk d + 1
  | (_, d) => uptoBulk d + 1
 end
def uptoSmall : (H : Type) → List (DataW H) → Bool := fun _ ds => decide (uptoBulkAll ds ≤ 1048576)
def OpenSpec.upto (s : _root_.Go.ChangeSpec) : _root_.Go.OpenSpec := { _root_.Go.OpenSpec.ofChange s with cond := some uptoSmall }

/-- 'outworkerlaw04.IrChecks', WHERE WHAT IT READS IS OF BULK AT MOST 1048576: true; the input reads as it did. -/
def irChecksUptoRow : OpenClaim := { program := "ytibdneedfopcoaa", sum := "c41a60c7333fe0f767d6928e1e770900f6d3e1f830e7200e6dc805689fd30ce8", func := "outworker/outworkerlaw04.IrChecks", spec := "irChecks", apart := false, narrowed := true }
def IrChecksUptoSaid : Prop := irChecksUptoRow.holds Try.pinned (OpenSpec.upto irChecksSpec)

/-- 'outworkerlaw04.IrUses', WHERE WHAT IT READS IS OF BULK AT MOST 1048576: true; the input reads as it did. -/
def irUsesUptoRow : OpenClaim := { program := "ytibdneedfopcoaa", sum := "c41a60c7333fe0f767d6928e1e770900f6d3e1f830e7200e6dc805689fd30ce8", func := "outworker/outworkerlaw04.IrUses", spec := "irUses", apart := false, narrowed := true }
def IrUsesUptoSaid : Prop := irUsesUptoRow.holds Try.pinned (OpenSpec.upto irUsesSpec)

/-- 'outworkerlaw04.IrEnds', WHERE WHAT IT READS IS OF BULK AT MOST 1048576: true; the input reads as it did. -/
def irEndsUptoRow : OpenClaim := { program := "ytibdneedfopcoaa", sum := "c41a60c7333fe0f767d6928e1e770900f6d3e1f830e7200e6dc805689fd30ce8", func := "outworker/outworkerlaw04.IrEnds", spec := "irEnds", apart := false, narrowed := true }
def IrEndsUptoSaid : Prop := irEndsUptoRow.holds Try.pinned (OpenSpec.upto irEndsSpec)

/-- 'outworkerlaw04.IrOnly', WHERE WHAT IT READS IS OF BULK AT MOST 1048576: true; the input reads as it did. -/
def irOnlyUptoRow : OpenClaim := { program := "ytibdneedfopcoaa", sum := "c41a60c7333fe0f767d6928e1e770900f6d3e1f830e7200e6dc805689fd30ce8", func := "outworker/outworkerlaw04.IrOnly", spec := "irOnly", unfollowed := true, recurses := true, apart := false, narrowed := true }
def IrOnlyUptoSaid : Prop := irOnlyUptoRow.holds Try.pinned (OpenSpec.upto irOnlySpec)

/-- 'outworkerlaw04.IrTwice', WHERE WHAT IT READS IS OF BULK AT MOST 1048576: true; the input reads as it did. -/
def irTwiceUptoRow : OpenClaim := { program := "ytibdneedfopcoaa", sum := "c41a60c7333fe0f767d6928e1e770900f6d3e1f830e7200e6dc805689fd30ce8", func := "outworker/outworkerlaw04.IrTwice", spec := "irTwice", apart := false, narrowed := true }
def IrTwiceUptoSaid : Prop := irTwiceUptoRow.holds Try.pinned (OpenSpec.upto irTwiceSpec)

/-- 'outworkerlaw04.IrCopied', WHERE WHAT IT READS IS OF BULK AT MOST 1048576: true; the input reads as it did. -/
def irCopiedUptoRow : OpenClaim := { program := "ytibdneedfopcoaa", sum := "c41a60c7333fe0f767d6928e1e770900f6d3e1f830e7200e6dc805689fd30ce8", func := "outworker/outworkerlaw04.IrCopied", spec := "irCopied", apart := false, narrowed := true }
def IrCopiedUptoSaid : Prop := irCopiedUptoRow.holds Try.pinned (OpenSpec.upto irCopiedSpec)

/-- 'outworkerlaw05.MachChecks', WHERE WHAT IT READS IS OF BULK AT MOST 1048576: true; the input reads as it did. -/
def machChecksUptoRow : OpenClaim := { program := "ytibdneedfopcoaa", sum := "c41a60c7333fe0f767d6928e1e770900f6d3e1f830e7200e6dc805689fd30ce8", func := "outworker/outworkerlaw05.MachChecks", spec := "machChecks", unfollowed := true, recurses := true, apart := false, narrowed := true }
def MachChecksUptoSaid : Prop := machChecksUptoRow.holds Try.pinned (OpenSpec.upto machChecksSpec)

/-- 'outworkerlaw05.MachFree', WHERE WHAT IT READS IS OF BULK AT MOST 1048576: true; the input reads as it did. -/
def machFreeUptoRow : OpenClaim := { program := "ytibdneedfopcoaa", sum := "c41a60c7333fe0f767d6928e1e770900f6d3e1f830e7200e6dc805689fd30ce8", func := "outworker/outworkerlaw05.MachFree", spec := "machFree", apart := false, narrowed := true }
def MachFreeUptoSaid : Prop := machFreeUptoRow.holds Try.pinned (OpenSpec.upto machFreeSpec)

/-- 'outworkerlaw05.MachOnly', WHERE WHAT IT READS IS OF BULK AT MOST 1048576: true; the input reads as it did. -/
def machOnlyUptoRow : OpenClaim := { program := "ytibdneedfopcoaa", sum := "c41a60c7333fe0f767d6928e1e770900f6d3e1f830e7200e6dc805689fd30ce8", func := "outworker/outworkerlaw05.MachOnly", spec := "machOnly", unfollowed := true, recurses := true, apart := false, narrowed := true }
def MachOnlyUptoSaid : Prop := machOnlyUptoRow.holds Try.pinned (OpenSpec.upto machOnlySpec)

/-- 'outworkerlaw05.MachSlots', WHERE WHAT IT READS IS OF BULK AT MOST 1048576: true; the input reads as it did. -/
def machSlotsUptoRow : OpenClaim := { program := "ytibdneedfopcoaa", sum := "c41a60c7333fe0f767d6928e1e770900f6d3e1f830e7200e6dc805689fd30ce8", func := "outworker/outworkerlaw05.MachSlots", spec := "machSlots", unfollowed := true, recurses := true, apart := false, narrowed := true }
def MachSlotsUptoSaid : Prop := machSlotsUptoRow.holds Try.pinned (OpenSpec.upto machSlotsSpec)

end Rows
end Go.Proofs.Ytibdneedfopcoaa
