/-
  No cell of these rows narrows 'for every input' (looked for: loops, veiled, ifaces, maps, wideKeys, modest, calm, conditions, laid).
  DERIVED. THE GIVEN ROWS OF THIS SEAT. 12 by the template 'for every input the law returns true; each argument reads behind the call as it read before'; 0 by the template 'total and deterministic' (their statements: YtodeffobplpcnaaTotals.lean).
  GIVEN WITH THE SEED: the statements are not yours to turn. If you find one false, say at which input.
  Laid BY PROGRAM, IN A SANDBOX (cutbox-rows.mjs): the forced cells as the released guide's own fill.sh prints them over the translation 7be3f92f00e2e333… (all of the seat's roots in one cut). By AI agents, Wed Nov 11 2026. No macro, syntax, notation, axiom, sorry.
-/
import Derived.Test.YtodeffobplpcnaaChecked
import GoSem.Claim
import GoSem.ClaimJoined
import GoSem.ClaimMapViews
import Derived.JoinedTies
import Derived.KernelRfl
namespace Go.Proofs.Ytodeffobplpcnaa
/- THE CELL 'sum', in the pinned program and in every row, IS THE sha256 OF THE DUMP (.gsa) THAT YtodeffobplpcnaaProg.lean LOADS. Nothing in Lean hashes anything: it is a label: what it is worth is what the hold of that sum in a sandbox is worth. -/
noncomputable def Try.pinned : Pinned := { name := "ytodeffobplpcnaa", sum := "7be3f92f00e2e33375f19966cea1296f97ab76f79998c9d8e544dc58efd751f0", checked := Try.checked }
namespace Rows
def none {H : Type} : Left H := { results := [], args := [] }

/-- 'outworkerlaw06.RunRuns': WHATEVER THE INPUT: true; the input reads as it did. -/
def runRunsSpec : ChangeSpec := { name := "runRuns", fn := fun _ => fun
  | [d1, d2] => { results := [.lit (.bool true)], args := [d1, d2] }
  | _ => none }
def runRunsRow : OpenClaim := { program := "ytodeffobplpcnaa", sum := "7be3f92f00e2e33375f19966cea1296f97ab76f79998c9d8e544dc58efd751f0", func := "outworker/outworkerlaw06.RunRuns", spec := "runRuns", apart := false }
def RunRunsSaid : Prop := runRunsRow.holds Try.pinned (OpenSpec.ofChange runRunsSpec)

/-- ITS FALSE NEIGHBOUR: 'it returns false'. Refute it at one input. -/
def runRunsWrong : ChangeSpec := { name := "runRuns", fn := fun _ => fun
  | [d1, d2] => { results := [.lit (.bool false)], args := [d1, d2] }
  | _ => none }
def RunRunsWrongFalsely : Prop := runRunsRow.holds Try.pinned (OpenSpec.ofChange runRunsWrong)

/-- 'outworkerlaw06.RunRefuses': WHATEVER THE INPUT: true; the input reads as it did. -/
def runRefusesSpec : ChangeSpec := { name := "runRefuses", fn := fun _ => fun
  | [d1, d2, d3, d4] => { results := [.lit (.bool true)], args := [d1, d2, d3, d4] }
  | _ => none }
def runRefusesRow : OpenClaim := { program := "ytodeffobplpcnaa", sum := "7be3f92f00e2e33375f19966cea1296f97ab76f79998c9d8e544dc58efd751f0", func := "outworker/outworkerlaw06.RunRefuses", spec := "runRefuses", apart := false }
def RunRefusesSaid : Prop := runRefusesRow.holds Try.pinned (OpenSpec.ofChange runRefusesSpec)

/-- ITS FALSE NEIGHBOUR: 'it returns false'. Refute it at one input. -/
def runRefusesWrong : ChangeSpec := { name := "runRefuses", fn := fun _ => fun
  | [d1, d2, d3, d4] => { results := [.lit (.bool false)], args := [d1, d2, d3, d4] }
  | _ => none }
def RunRefusesWrongFalsely : Prop := runRefusesRow.holds Try.pinned (OpenSpec.ofChange runRefusesWrong)

/-- 'outworkerlaw06.RunDoes': WHATEVER THE INPUT: true; the input reads as it did. -/
def runDoesSpec : ChangeSpec := { name := "runDoes", fn := fun _ => fun
  | [d1, d2, d3, d4, d5] => { results := [.lit (.bool true)], args := [d1, d2, d3, d4, d5] }
  | _ => none }
def runDoesRow : OpenClaim := { program := "ytodeffobplpcnaa", sum := "7be3f92f00e2e33375f19966cea1296f97ab76f79998c9d8e544dc58efd751f0", func := "outworker/outworkerlaw06.RunDoes", spec := "runDoes", unfollowed := true, recurses := true, apart := false }
def RunDoesSaid : Prop := runDoesRow.holds Try.pinned (OpenSpec.ofChange runDoesSpec)

/-- ITS FALSE NEIGHBOUR: 'it returns false'. Refute it at one input. -/
def runDoesWrong : ChangeSpec := { name := "runDoes", fn := fun _ => fun
  | [d1, d2, d3, d4, d5] => { results := [.lit (.bool false)], args := [d1, d2, d3, d4, d5] }
  | _ => none }
def RunDoesWrongFalsely : Prop := runDoesRow.holds Try.pinned (OpenSpec.ofChange runDoesWrong)

/-- 'outworkerlaw06.RunFuel': WHATEVER THE INPUT: true; the input reads as it did. -/
def runFuelSpec : ChangeSpec := { name := "runFuel", fn := fun _ => fun
  | [d1, d2, d3] => { results := [.lit (.bool true)], args := [d1, d2, d3] }
  | _ => none }
def runFuelRow : OpenClaim := { program := "ytodeffobplpcnaa", sum := "7be3f92f00e2e33375f19966cea1296f97ab76f79998c9d8e544dc58efd751f0", func := "outworker/outworkerlaw06.RunFuel", spec := "runFuel", apart := false }
def RunFuelSaid : Prop := runFuelRow.holds Try.pinned (OpenSpec.ofChange runFuelSpec)

/-- ITS FALSE NEIGHBOUR: 'it returns false'. Refute it at one input. -/
def runFuelWrong : ChangeSpec := { name := "runFuel", fn := fun _ => fun
  | [d1, d2, d3] => { results := [.lit (.bool false)], args := [d1, d2, d3] }
  | _ => none }
def RunFuelWrongFalsely : Prop := runFuelRow.holds Try.pinned (OpenSpec.ofChange runFuelWrong)

/-- 'outworkerlaw06.RunMoves': WHATEVER THE INPUT: true; the input reads as it did. -/
def runMovesSpec : ChangeSpec := { name := "runMoves", fn := fun _ => fun
  | [d1, d2, d3, d4, d5] => { results := [.lit (.bool true)], args := [d1, d2, d3, d4, d5] }
  | _ => none }
def runMovesRow : OpenClaim := { program := "ytodeffobplpcnaa", sum := "7be3f92f00e2e33375f19966cea1296f97ab76f79998c9d8e544dc58efd751f0", func := "outworker/outworkerlaw06.RunMoves", spec := "runMoves", apart := false }
def RunMovesSaid : Prop := runMovesRow.holds Try.pinned (OpenSpec.ofChange runMovesSpec)

/-- ITS FALSE NEIGHBOUR: 'it returns false'. Refute it at one input. -/
def runMovesWrong : ChangeSpec := { name := "runMoves", fn := fun _ => fun
  | [d1, d2, d3, d4, d5] => { results := [.lit (.bool false)], args := [d1, d2, d3, d4, d5] }
  | _ => none }
def RunMovesWrongFalsely : Prop := runMovesRow.holds Try.pinned (OpenSpec.ofChange runMovesWrong)

/-- 'outworkerlaw06.RunAnswers': WHATEVER THE INPUT: true; the input reads as it did. -/
def runAnswersSpec : ChangeSpec := { name := "runAnswers", fn := fun _ => fun
  | [d1, d2, d3] => { results := [.lit (.bool true)], args := [d1, d2, d3] }
  | _ => none }
def runAnswersRow : OpenClaim := { program := "ytodeffobplpcnaa", sum := "7be3f92f00e2e33375f19966cea1296f97ab76f79998c9d8e544dc58efd751f0", func := "outworker/outworkerlaw06.RunAnswers", spec := "runAnswers", apart := false }
def RunAnswersSaid : Prop := runAnswersRow.holds Try.pinned (OpenSpec.ofChange runAnswersSpec)

/-- ITS FALSE NEIGHBOUR: 'it returns false'. Refute it at one input. -/
def runAnswersWrong : ChangeSpec := { name := "runAnswers", fn := fun _ => fun
  | [d1, d2, d3] => { results := [.lit (.bool false)], args := [d1, d2, d3] }
  | _ => none }
def RunAnswersWrongFalsely : Prop := runAnswersRow.holds Try.pinned (OpenSpec.ofChange runAnswersWrong)

/-- 'outworkerlaw06.RunCalls': WHATEVER THE INPUT: true; the input reads as it did. -/
def runCallsSpec : ChangeSpec := { name := "runCalls", fn := fun _ => fun
  | [d1, d2] => { results := [.lit (.bool true)], args := [d1, d2] }
  | _ => none }
def runCallsRow : OpenClaim := { program := "ytodeffobplpcnaa", sum := "7be3f92f00e2e33375f19966cea1296f97ab76f79998c9d8e544dc58efd751f0", func := "outworker/outworkerlaw06.RunCalls", spec := "runCalls", apart := false }
def RunCallsSaid : Prop := runCallsRow.holds Try.pinned (OpenSpec.ofChange runCallsSpec)

/-- ITS FALSE NEIGHBOUR: 'it returns false'. Refute it at one input. -/
def runCallsWrong : ChangeSpec := { name := "runCalls", fn := fun _ => fun
  | [d1, d2] => { results := [.lit (.bool false)], args := [d1, d2] }
  | _ => none }
def RunCallsWrongFalsely : Prop := runCallsRow.holds Try.pinned (OpenSpec.ofChange runCallsWrong)

/-- 'outworkerlaw06.RunRenamed': WHATEVER THE INPUT: true; the input reads as it did. -/
def runRenamedSpec : ChangeSpec := { name := "runRenamed", fn := fun _ => fun
  | [d1, d2, d3, d4] => { results := [.lit (.bool true)], args := [d1, d2, d3, d4] }
  | _ => none }
def runRenamedRow : OpenClaim := { program := "ytodeffobplpcnaa", sum := "7be3f92f00e2e33375f19966cea1296f97ab76f79998c9d8e544dc58efd751f0", func := "outworker/outworkerlaw06.RunRenamed", spec := "runRenamed", unfollowed := true, recurses := true, apart := false }
def RunRenamedSaid : Prop := runRenamedRow.holds Try.pinned (OpenSpec.ofChange runRenamedSpec)

/-- ITS FALSE NEIGHBOUR: 'it returns false'. Refute it at one input. -/
def runRenamedWrong : ChangeSpec := { name := "runRenamed", fn := fun _ => fun
  | [d1, d2, d3, d4] => { results := [.lit (.bool false)], args := [d1, d2, d3, d4] }
  | _ => none }
def RunRenamedWrongFalsely : Prop := runRenamedRow.holds Try.pinned (OpenSpec.ofChange runRenamedWrong)

/-- 'outworkerlaw07.ExecExecs': WHATEVER THE INPUT: true; the input reads as it did. -/
def execExecsSpec : ChangeSpec := { name := "execExecs", fn := fun _ => fun
  | [d1, d2, d3, d4, d5] => { results := [.lit (.bool true)], args := [d1, d2, d3, d4, d5] }
  | _ => none }
def execExecsRow : OpenClaim := { program := "ytodeffobplpcnaa", sum := "7be3f92f00e2e33375f19966cea1296f97ab76f79998c9d8e544dc58efd751f0", func := "outworker/outworkerlaw07.ExecExecs", spec := "execExecs", unfollowed := true, recurses := true, apart := false }
def ExecExecsSaid : Prop := execExecsRow.holds Try.pinned (OpenSpec.ofChange execExecsSpec)

/-- ITS FALSE NEIGHBOUR: 'it returns false'. Refute it at one input. -/
def execExecsWrong : ChangeSpec := { name := "execExecs", fn := fun _ => fun
  | [d1, d2, d3, d4, d5] => { results := [.lit (.bool false)], args := [d1, d2, d3, d4, d5] }
  | _ => none }
def ExecExecsWrongFalsely : Prop := execExecsRow.holds Try.pinned (OpenSpec.ofChange execExecsWrong)

/-- 'outworkerlaw07.ExecRefuses': WHATEVER THE INPUT: true; the input reads as it did. -/
def execRefusesSpec : ChangeSpec := { name := "execRefuses", fn := fun _ => fun
  | [d1, d2, d3, d4, d5, d6, d7] => { results := [.lit (.bool true)], args := [d1, d2, d3, d4, d5, d6, d7] }
  | _ => none }
def execRefusesRow : OpenClaim := { program := "ytodeffobplpcnaa", sum := "7be3f92f00e2e33375f19966cea1296f97ab76f79998c9d8e544dc58efd751f0", func := "outworker/outworkerlaw07.ExecRefuses", spec := "execRefuses", unfollowed := true, recurses := true, apart := false }
def ExecRefusesSaid : Prop := execRefusesRow.holds Try.pinned (OpenSpec.ofChange execRefusesSpec)

/-- ITS FALSE NEIGHBOUR: 'it returns false'. Refute it at one input. -/
def execRefusesWrong : ChangeSpec := { name := "execRefuses", fn := fun _ => fun
  | [d1, d2, d3, d4, d5, d6, d7] => { results := [.lit (.bool false)], args := [d1, d2, d3, d4, d5, d6, d7] }
  | _ => none }
def ExecRefusesWrongFalsely : Prop := execRefusesRow.holds Try.pinned (OpenSpec.ofChange execRefusesWrong)

/-- 'outworkerlaw07.ExecSlots': WHATEVER THE INPUT: true; the input reads as it did. -/
def execSlotsSpec : ChangeSpec := { name := "execSlots", fn := fun _ => fun
  | [d1, d2, d3, d4, d5, d6] => { results := [.lit (.bool true)], args := [d1, d2, d3, d4, d5, d6] }
  | _ => none }
def execSlotsRow : OpenClaim := { program := "ytodeffobplpcnaa", sum := "7be3f92f00e2e33375f19966cea1296f97ab76f79998c9d8e544dc58efd751f0", func := "outworker/outworkerlaw07.ExecSlots", spec := "execSlots", unfollowed := true, recurses := true, apart := false }
def ExecSlotsSaid : Prop := execSlotsRow.holds Try.pinned (OpenSpec.ofChange execSlotsSpec)

/-- ITS FALSE NEIGHBOUR: 'it returns false'. Refute it at one input. -/
def execSlotsWrong : ChangeSpec := { name := "execSlots", fn := fun _ => fun
  | [d1, d2, d3, d4, d5, d6] => { results := [.lit (.bool false)], args := [d1, d2, d3, d4, d5, d6] }
  | _ => none }
def ExecSlotsWrongFalsely : Prop := execSlotsRow.holds Try.pinned (OpenSpec.ofChange execSlotsWrong)

/-- 'outworkerlaw07.ExecPlain': WHATEVER THE INPUT: true; the input reads as it did. -/
def execPlainSpec : ChangeSpec := { name := "execPlain", fn := fun _ => fun
  | [d1, d2] => { results := [.lit (.bool true)], args := [d1, d2] }
  | _ => none }
def execPlainRow : OpenClaim := { program := "ytodeffobplpcnaa", sum := "7be3f92f00e2e33375f19966cea1296f97ab76f79998c9d8e544dc58efd751f0", func := "outworker/outworkerlaw07.ExecPlain", spec := "execPlain", apart := false }
def ExecPlainSaid : Prop := execPlainRow.holds Try.pinned (OpenSpec.ofChange execPlainSpec)

/-- ITS FALSE NEIGHBOUR: 'it returns false'. Refute it at one input. -/
def execPlainWrong : ChangeSpec := { name := "execPlain", fn := fun _ => fun
  | [d1, d2] => { results := [.lit (.bool false)], args := [d1, d2] }
  | _ => none }
def ExecPlainWrongFalsely : Prop := execPlainRow.holds Try.pinned (OpenSpec.ofChange execPlainWrong)

/- THE SECOND FORM. 'bulk': how many values and letters a reading holds, each counted each time it is reached (what is shared counts as often as it is met; a slice's spare places count too). A statement '..UptoSaid' is the law's where the arguments, and the package variables that the reading takes, are together of bulk at most 1048576: NARROWER than '..Said'. Prove '..Said' where nothing that the law and all that it calls make is longer than what came in: it says more and counts as full. Else prove '..UptoSaid'. A law counts once. -/
mutual
def uptoBulk {H : Type} : DataW H → Nat
  | .lit (.string bytes) => bytes.length + 1
  | .lit _ => 1
  | .nil => 1
  | .ptr d => uptoBulk d + 1
  | .slice elems spare => uptoBulkAll elems + uptoBulkAll spare + 1
  | .agg parts => uptoBulkAll parts + 1
  | .iface _ d => uptoBulk d + 1
  | .map entries => uptoBulkEntries entries + 1
  | .held _ => 1
def uptoBulkAll {H : Type} : List (DataW H) → Nat
  | [] => 0
  | d :: r => uptoBulk d + uptoBulkAll r
def uptoBulkEntries {H : Type} : List (Lit × DataW H) → Nat
  | [] => 0
  | x :: r => uptoBulkEntry x + uptoBulkEntries r
def uptoBulkEntry {H : Type} : Lit × DataW H → Nat
  | (.string bytes, d) => bytes.length + uptoBulk d + 1
  | (_, d) => uptoBulk d + 1
 end
def uptoSmall : (H : Type) → List (DataW H) → Bool := fun _ ds => decide (uptoBulkAll ds ≤ 1048576)
def OpenSpec.upto (s : _root_.Go.ChangeSpec) : _root_.Go.OpenSpec := { _root_.Go.OpenSpec.ofChange s with cond := some uptoSmall }

/-- 'outworkerlaw06.RunRuns', WHERE WHAT IT READS IS OF BULK AT MOST 1048576: true; the input reads as it did. -/
def runRunsUptoRow : OpenClaim := { program := "ytodeffobplpcnaa", sum := "7be3f92f00e2e33375f19966cea1296f97ab76f79998c9d8e544dc58efd751f0", func := "outworker/outworkerlaw06.RunRuns", spec := "runRuns", apart := false, narrowed := true }
def RunRunsUptoSaid : Prop := runRunsUptoRow.holds Try.pinned (OpenSpec.upto runRunsSpec)

/-- 'outworkerlaw06.RunRefuses', WHERE WHAT IT READS IS OF BULK AT MOST 1048576: true; the input reads as it did. -/
def runRefusesUptoRow : OpenClaim := { program := "ytodeffobplpcnaa", sum := "7be3f92f00e2e33375f19966cea1296f97ab76f79998c9d8e544dc58efd751f0", func := "outworker/outworkerlaw06.RunRefuses", spec := "runRefuses", apart := false, narrowed := true }
def RunRefusesUptoSaid : Prop := runRefusesUptoRow.holds Try.pinned (OpenSpec.upto runRefusesSpec)

/-- 'outworkerlaw06.RunDoes', WHERE WHAT IT READS IS OF BULK AT MOST 1048576: true; the input reads as it did. -/
def runDoesUptoRow : OpenClaim := { program := "ytodeffobplpcnaa", sum := "7be3f92f00e2e33375f19966cea1296f97ab76f79998c9d8e544dc58efd751f0", func := "outworker/outworkerlaw06.RunDoes", spec := "runDoes", unfollowed := true, recurses := true, apart := false, narrowed := true }
def RunDoesUptoSaid : Prop := runDoesUptoRow.holds Try.pinned (OpenSpec.upto runDoesSpec)

/-- 'outworkerlaw06.RunFuel', WHERE WHAT IT READS IS OF BULK AT MOST 1048576: true; the input reads as it did. -/
def runFuelUptoRow : OpenClaim := { program := "ytodeffobplpcnaa", sum := "7be3f92f00e2e33375f19966cea1296f97ab76f79998c9d8e544dc58efd751f0", func := "outworker/outworkerlaw06.RunFuel", spec := "runFuel", apart := false, narrowed := true }
def RunFuelUptoSaid : Prop := runFuelUptoRow.holds Try.pinned (OpenSpec.upto runFuelSpec)

/-- 'outworkerlaw06.RunMoves', WHERE WHAT IT READS IS OF BULK AT MOST 1048576: true; the input reads as it did. -/
def runMovesUptoRow : OpenClaim := { program := "ytodeffobplpcnaa", sum := "7be3f92f00e2e33375f19966cea1296f97ab76f79998c9d8e544dc58efd751f0", func := "outworker/outworkerlaw06.RunMoves", spec := "runMoves", apart := false, narrowed := true }
def RunMovesUptoSaid : Prop := runMovesUptoRow.holds Try.pinned (OpenSpec.upto runMovesSpec)

/-- 'outworkerlaw06.RunAnswers', WHERE WHAT IT READS IS OF BULK AT MOST 1048576: true; the input reads as it did. -/
def runAnswersUptoRow : OpenClaim := { program := "ytodeffobplpcnaa", sum := "7be3f92f00e2e33375f19966cea1296f97ab76f79998c9d8e544dc58efd751f0", func := "outworker/outworkerlaw06.RunAnswers", spec := "runAnswers", apart := false, narrowed := true }
def RunAnswersUptoSaid : Prop := runAnswersUptoRow.holds Try.pinned (OpenSpec.upto runAnswersSpec)

/-- 'outworkerlaw06.RunCalls', WHERE WHAT IT READS IS OF BULK AT MOST 1048576: true; the input reads as it did. -/
def runCallsUptoRow : OpenClaim := { program := "ytodeffobplpcnaa", sum := "7be3f92f00e2e33375f19966cea1296f97ab76f79998c9d8e544dc58efd751f0", func := "outworker/outworkerlaw06.RunCalls", spec := "runCalls", apart := false, narrowed := true }
def RunCallsUptoSaid : Prop := runCallsUptoRow.holds Try.pinned (OpenSpec.upto runCallsSpec)

/-- 'outworkerlaw06.RunRenamed', WHERE WHAT IT READS IS OF BULK AT MOST 1048576: true; the input reads as it did. -/
def runRenamedUptoRow : OpenClaim := { program := "ytodeffobplpcnaa", sum := "7be3f92f00e2e33375f19966cea1296f97ab76f79998c9d8e544dc58efd751f0", func := "outworker/outworkerlaw06.RunRenamed", spec := "runRenamed", unfollowed := true, recurses := true, apart := false, narrowed := true }
def RunRenamedUptoSaid : Prop := runRenamedUptoRow.holds Try.pinned (OpenSpec.upto runRenamedSpec)

/-- 'outworkerlaw07.ExecExecs', WHERE WHAT IT READS IS OF BULK AT MOST 1048576: true; the input reads as it did. -/
def execExecsUptoRow : OpenClaim := { program := "ytodeffobplpcnaa", sum := "7be3f92f00e2e33375f19966cea1296f97ab76f79998c9d8e544dc58efd751f0", func := "outworker/outworkerlaw07.ExecExecs", spec := "execExecs", unfollowed := true, recurses := true, apart := false, narrowed := true }
def ExecExecsUptoSaid : Prop := execExecsUptoRow.holds Try.pinned (OpenSpec.upto execExecsSpec)

/-- 'outworkerlaw07.ExecRefuses', WHERE WHAT IT READS IS OF BULK AT MOST 1048576: true; the input reads as it did. -/
def execRefusesUptoRow : OpenClaim := { program := "ytodeffobplpcnaa", sum := "7be3f92f00e2e33375f19966cea1296f97ab76f79998c9d8e544dc58efd751f0", func := "outworker/outworkerlaw07.ExecRefuses", spec := "execRefuses", unfollowed := true, recurses := true, apart := false, narrowed := true }
def ExecRefusesUptoSaid : Prop := execRefusesUptoRow.holds Try.pinned (OpenSpec.upto execRefusesSpec)

/-- 'outworkerlaw07.ExecSlots', WHERE WHAT IT READS IS OF BULK AT MOST 1048576: true; the input reads as it did. -/
def execSlotsUptoRow : OpenClaim := { program := "ytodeffobplpcnaa", sum := "7be3f92f00e2e33375f19966cea1296f97ab76f79998c9d8e544dc58efd751f0", func := "outworker/outworkerlaw07.ExecSlots", spec := "execSlots", unfollowed := true, recurses := true, apart := false, narrowed := true }
def ExecSlotsUptoSaid : Prop := execSlotsUptoRow.holds Try.pinned (OpenSpec.upto execSlotsSpec)

/-- 'outworkerlaw07.ExecPlain', WHERE WHAT IT READS IS OF BULK AT MOST 1048576: true; the input reads as it did. -/
def execPlainUptoRow : OpenClaim := { program := "ytodeffobplpcnaa", sum := "7be3f92f00e2e33375f19966cea1296f97ab76f79998c9d8e544dc58efd751f0", func := "outworker/outworkerlaw07.ExecPlain", spec := "execPlain", apart := false, narrowed := true }
def ExecPlainUptoSaid : Prop := execPlainUptoRow.holds Try.pinned (OpenSpec.upto execPlainSpec)

end Rows
end Go.Proofs.Ytodeffobplpcnaa
