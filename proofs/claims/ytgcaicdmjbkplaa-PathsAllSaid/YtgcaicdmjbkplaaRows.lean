/-
  No cell of these rows narrows 'for every input' (looked for: loops, veiled, ifaces, maps, wideKeys, modest, calm, conditions, laid).
  DERIVED. THE GIVEN ROWS OF THIS SEAT. 3 by the template 'for every input the law returns true; each argument reads behind the call as it read before'; 0 by the template 'total and deterministic' (their statements: YtgcaicdmjbkplaaTotals.lean).
  GIVEN WITH THE SEED: the statements are not yours to turn. If you find one false, say at which input.
  Laid BY PROGRAM, IN A SANDBOX (cutbox-rows.mjs): the forced cells as the released guide's own fill.sh prints them over the translation bcf81d482eb13cb2… (all of the seat's roots in one cut). By AI agents, Wed Nov 11 2026. No macro, syntax, notation, axiom, sorry.
-/
import Derived.Test.YtgcaicdmjbkplaaChecked
import GoSem.Claim
import GoSem.ClaimJoined
import GoSem.ClaimMapViews
import Derived.JoinedTies
import Derived.KernelRfl
namespace Go.Proofs.Ytgcaicdmjbkplaa
/- THE CELL 'sum', in the pinned program and in every row, IS THE sha256 OF THE DUMP (.gsa) THAT YtgcaicdmjbkplaaProg.lean LOADS. Nothing in Lean hashes anything: it is a label: what it is worth is what the hold of that sum in a sandbox is worth. -/
noncomputable def Try.pinned : Pinned := { name := "ytgcaicdmjbkplaa", sum := "bcf81d482eb13cb297ca55164669a0b2b52a52eb9dba6c9b239215bf7f3c934a", checked := Try.checked }
namespace Rows
def none {H : Type} : Left H := { results := [], args := [] }

/-- 'outworkerlaw10.PathsRuns': WHATEVER THE INPUT: true; the input reads as it did. -/
def pathsRunsSpec : ChangeSpec := { name := "pathsRuns", fn := fun _ => fun
  | [d1, d2] => { results := [.lit (.bool true)], args := [d1, d2] }
  | _ => none }
def pathsRunsRow : OpenClaim := { program := "ytgcaicdmjbkplaa", sum := "bcf81d482eb13cb297ca55164669a0b2b52a52eb9dba6c9b239215bf7f3c934a", func := "outworker/outworkerlaw10.PathsRuns", spec := "pathsRuns", recurses := true, apart := false }
def PathsRunsSaid : Prop := pathsRunsRow.holds Try.pinned (OpenSpec.ofChange pathsRunsSpec)

/-- ITS FALSE NEIGHBOUR: 'it returns false'. Refute it at one input. -/
def pathsRunsWrong : ChangeSpec := { name := "pathsRuns", fn := fun _ => fun
  | [d1, d2] => { results := [.lit (.bool false)], args := [d1, d2] }
  | _ => none }
def PathsRunsWrongFalsely : Prop := pathsRunsRow.holds Try.pinned (OpenSpec.ofChange pathsRunsWrong)

/-- 'outworkerlaw10.PathsAll': WHATEVER THE INPUT: true; the input reads as it did. -/
def pathsAllSpec : ChangeSpec := { name := "pathsAll", fn := fun _ => fun
  | [d] => { results := [.lit (.bool true)], args := [d] }
  | _ => none }
def pathsAllRow : OpenClaim := { program := "ytgcaicdmjbkplaa", sum := "bcf81d482eb13cb297ca55164669a0b2b52a52eb9dba6c9b239215bf7f3c934a", func := "outworker/outworkerlaw10.PathsAll", spec := "pathsAll", recurses := true, apart := false }
def PathsAllSaid : Prop := pathsAllRow.holds Try.pinned (OpenSpec.ofChange pathsAllSpec)

/-- ITS FALSE NEIGHBOUR: 'it returns false'. Refute it at one input. -/
def pathsAllWrong : ChangeSpec := { name := "pathsAll", fn := fun _ => fun
  | [d] => { results := [.lit (.bool false)], args := [d] }
  | _ => none }
def PathsAllWrongFalsely : Prop := pathsAllRow.holds Try.pinned (OpenSpec.ofChange pathsAllWrong)

/-- 'outworkerlaw10.PathsOrder': WHATEVER THE INPUT: true; the input reads as it did. -/
def pathsOrderSpec : ChangeSpec := { name := "pathsOrder", fn := fun _ => fun
  | [d] => { results := [.lit (.bool true)], args := [d] }
  | _ => none }
def pathsOrderRow : OpenClaim := { program := "ytgcaicdmjbkplaa", sum := "bcf81d482eb13cb297ca55164669a0b2b52a52eb9dba6c9b239215bf7f3c934a", func := "outworker/outworkerlaw10.PathsOrder", spec := "pathsOrder", recurses := true, apart := false }
def PathsOrderSaid : Prop := pathsOrderRow.holds Try.pinned (OpenSpec.ofChange pathsOrderSpec)

/-- ITS FALSE NEIGHBOUR: 'it returns false'. Refute it at one input. -/
def pathsOrderWrong : ChangeSpec := { name := "pathsOrder", fn := fun _ => fun
  | [d] => { results := [.lit (.bool false)], args := [d] }
  | _ => none }
def PathsOrderWrongFalsely : Prop := pathsOrderRow.holds Try.pinned (OpenSpec.ofChange pathsOrderWrong)

/- THE SECOND FORM. 'bulk': how many values and letters a reading holds, each counted each time it is reached (what is shared counts as often as it is met; a slice's spare places count too). A statement '..UptoSaid' is the law's where the arguments, and the package variables that the reading takes, are together of bulk at most 1048576: NARROWER than '..Said'. Prove '..Said' where nothing that the law and all that it calls make is longer than what came in: it says more and counts as full. Else prove '..UptoSaid'. A law counts once. -/
mutual
def uptoBulk {H : Type} : DataW H → Nat
  | .lit (.string bytes) => bytes.length + 1
  | .lit _ => 1
  | .nil => 1
  | .ptr d => uptoBulk d + 1
  | .slice elems spare => uptoBulkAll elems + uptoBulkAll spare + 1
  | .agg parts => uptoBulkAll parts + 1
  | .iface _ d => uptoBulk d + 1
  | .map entries => uptoBulkEntries entries + 1
  | .held _ => 1
def uptoBulkAll {H : Type} : List (DataW H) → Nat
  | [] => 0
  | d :: r => uptoBulk d + uptoBulkAll r
def uptoBulkEntries {H : Type} : List (Lit × DataW H) → Nat
  | [] => 0
  | x :: r => uptoBulkEntry x + uptoBulkEntries r
def uptoBulkEntry {H : Type} : Lit × DataW H → Nat
  | (.string bytes, d) => bytes.length + uptoBulk d + 1
  | (_, d) => uptoBulk d + 1
 end
def uptoSmall : (H : Type) → List (DataW H) → Bool := fun _ ds => decide (uptoBulkAll ds ≤ 1048576)
def OpenSpec.upto (s : _root_.Go.ChangeSpec) : _root_.Go.OpenSpec := { _root_.Go.OpenSpec.ofChange s with cond := some uptoSmall }

/-- 'outworkerlaw10.PathsRuns', WHERE WHAT IT READS IS OF BULK AT MOST 1048576: true; the input reads as it did. -/
def pathsRunsUptoRow : OpenClaim := { program := "ytgcaicdmjbkplaa", sum := "bcf81d482eb13cb297ca55164669a0b2b52a52eb9dba6c9b239215bf7f3c934a", func := "outworker/outworkerlaw10.PathsRuns", spec := "pathsRuns", recurses := true, apart := false, narrowed := true }
def PathsRunsUptoSaid : Prop := pathsRunsUptoRow.holds Try.pinned (OpenSpec.upto pathsRunsSpec)

/-- 'outworkerlaw10.PathsAll', WHERE WHAT IT READS IS OF BULK AT MOST 1048576: true; the input reads as it did. -/
def pathsAllUptoRow : OpenClaim := { program := "ytgcaicdmjbkplaa", sum := "bcf81d482eb13cb297ca55164669a0b2b52a52eb9dba6c9b239215bf7f3c934a", func := "outworker/outworkerlaw10.PathsAll", spec := "pathsAll", recurses := true, apart := false, narrowed := true }
def PathsAllUptoSaid : Prop := pathsAllUptoRow.holds Try.pinned (OpenSpec.upto pathsAllSpec)

/-- 'outworkerlaw10.PathsOrder', WHERE WHAT IT READS IS OF BULK AT MOST 1048576: true; the input reads as it did. -/
def pathsOrderUptoRow : OpenClaim := { program := "ytgcaicdmjbkplaa", sum := "bcf81d482eb13cb297ca55164669a0b2b52a52eb9dba6c9b239215bf7f3c934a", func := "outworker/outworkerlaw10.PathsOrder", spec := "pathsOrder", recurses := true, apart := false, narrowed := true }
def PathsOrderUptoSaid : Prop := pathsOrderUptoRow.holds Try.pinned (OpenSpec.upto pathsOrderSpec)

end Rows
end Go.Proofs.Ytgcaicdmjbkplaa
