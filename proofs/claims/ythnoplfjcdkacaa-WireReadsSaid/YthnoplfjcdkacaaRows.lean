/-
  No cell of these rows narrows 'for every input' (looked for: loops, veiled, ifaces, maps, wideKeys, modest, calm, conditions, laid).
  DERIVED. THE GIVEN ROWS OF THIS SEAT. 7 by the template 'for every input the law returns true; each argument reads behind the call as it read before'; 0 by the template 'total and deterministic' (their statements: YthnoplfjcdkacaaTotals.lean).
  GIVEN WITH THE SEED: the statements are not yours to turn. If you find one false, say at which input.
  Laid BY PROGRAM, IN A SANDBOX (cutbox-rows.mjs): the forced cells as the released guide's own fill.sh prints them over the translation a909c6377c516d08… (all of the seat's roots in one cut). By AI agents, Wed Nov 11 2026. No macro, syntax, notation, axiom, sorry.
-/
import Derived.Test.YthnoplfjcdkacaaChecked
import GoSem.Claim
import GoSem.ClaimJoined
import GoSem.ClaimMapViews
import Derived.JoinedTies
import Derived.KernelRfl
namespace Go.Proofs.Ythnoplfjcdkacaa
/- THE CELL 'sum', in the pinned program and in every row, IS THE sha256 OF THE DUMP (.gsa) THAT YthnoplfjcdkacaaProg.lean LOADS. Nothing in Lean hashes anything: it is a label: what it is worth is what the hold of that sum in a sandbox is worth. -/
noncomputable def Try.pinned : Pinned := { name := "ythnoplfjcdkacaa", sum := "a909c6377c516d08cbb13a00bd0a0761fc84e2ec7a4638f976a3bf0c8584c84f", checked := Try.checked }
namespace Rows
def none {H : Type} : Left H := { results := [], args := [] }

/-- 'outworkerlaw08.WireFuncs': WHATEVER THE INPUT: true; the input reads as it did. -/
def wireFuncsSpec : ChangeSpec := { name := "wireFuncs", fn := fun _ => fun
  | [d1, d2, d3, d4, d5, d6] => { results := [.lit (.bool true)], args := [d1, d2, d3, d4, d5, d6] }
  | _ => none }
def wireFuncsRow : OpenClaim := { program := "ythnoplfjcdkacaa", sum := "a909c6377c516d08cbb13a00bd0a0761fc84e2ec7a4638f976a3bf0c8584c84f", func := "outworker/outworkerlaw08.WireFuncs", spec := "wireFuncs", apart := false }
def WireFuncsSaid : Prop := wireFuncsRow.holds Try.pinned (OpenSpec.ofChange wireFuncsSpec)

/-- ITS FALSE NEIGHBOUR: 'it returns false'. Refute it at one input. -/
def wireFuncsWrong : ChangeSpec := { name := "wireFuncs", fn := fun _ => fun
  | [d1, d2, d3, d4, d5, d6] => { results := [.lit (.bool false)], args := [d1, d2, d3, d4, d5, d6] }
  | _ => none }
def WireFuncsWrongFalsely : Prop := wireFuncsRow.holds Try.pinned (OpenSpec.ofChange wireFuncsWrong)

/-- 'outworkerlaw08.WireApart': WHATEVER THE INPUT: true; the input reads as it did. -/
def wireApartSpec : ChangeSpec := { name := "wireApart", fn := fun _ => fun
  | [d1, d2, d3] => { results := [.lit (.bool true)], args := [d1, d2, d3] }
  | _ => none }
def wireApartRow : OpenClaim := { program := "ythnoplfjcdkacaa", sum := "a909c6377c516d08cbb13a00bd0a0761fc84e2ec7a4638f976a3bf0c8584c84f", func := "outworker/outworkerlaw08.WireApart", spec := "wireApart", apart := false }
def WireApartSaid : Prop := wireApartRow.holds Try.pinned (OpenSpec.ofChange wireApartSpec)

/-- ITS FALSE NEIGHBOUR: 'it returns false'. Refute it at one input. -/
def wireApartWrong : ChangeSpec := { name := "wireApart", fn := fun _ => fun
  | [d1, d2, d3] => { results := [.lit (.bool false)], args := [d1, d2, d3] }
  | _ => none }
def WireApartWrongFalsely : Prop := wireApartRow.holds Try.pinned (OpenSpec.ofChange wireApartWrong)

/-- 'outworkerlaw08.WireCodes': WHATEVER THE INPUT: true; the input reads as it did. -/
def wireCodesSpec : ChangeSpec := { name := "wireCodes", fn := fun _ => fun
  | [d1, d2, d3, d4, d5, d6, d7] => { results := [.lit (.bool true)], args := [d1, d2, d3, d4, d5, d6, d7] }
  | _ => none }
def wireCodesRow : OpenClaim := { program := "ythnoplfjcdkacaa", sum := "a909c6377c516d08cbb13a00bd0a0761fc84e2ec7a4638f976a3bf0c8584c84f", func := "outworker/outworkerlaw08.WireCodes", spec := "wireCodes", unfollowed := true, recurses := true, apart := false }
def WireCodesSaid : Prop := wireCodesRow.holds Try.pinned (OpenSpec.ofChange wireCodesSpec)

/-- ITS FALSE NEIGHBOUR: 'it returns false'. Refute it at one input. -/
def wireCodesWrong : ChangeSpec := { name := "wireCodes", fn := fun _ => fun
  | [d1, d2, d3, d4, d5, d6, d7] => { results := [.lit (.bool false)], args := [d1, d2, d3, d4, d5, d6, d7] }
  | _ => none }
def WireCodesWrongFalsely : Prop := wireCodesRow.holds Try.pinned (OpenSpec.ofChange wireCodesWrong)

/-- 'outworkerlaw08.WireCerts': WHATEVER THE INPUT: true; the input reads as it did. -/
def wireCertsSpec : ChangeSpec := { name := "wireCerts", fn := fun _ => fun
  | [d1, d2, d3, d4] => { results := [.lit (.bool true)], args := [d1, d2, d3, d4] }
  | _ => none }
def wireCertsRow : OpenClaim := { program := "ythnoplfjcdkacaa", sum := "a909c6377c516d08cbb13a00bd0a0761fc84e2ec7a4638f976a3bf0c8584c84f", func := "outworker/outworkerlaw08.WireCerts", spec := "wireCerts", apart := false }
def WireCertsSaid : Prop := wireCertsRow.holds Try.pinned (OpenSpec.ofChange wireCertsSpec)

/-- ITS FALSE NEIGHBOUR: 'it returns false'. Refute it at one input. -/
def wireCertsWrong : ChangeSpec := { name := "wireCerts", fn := fun _ => fun
  | [d1, d2, d3, d4] => { results := [.lit (.bool false)], args := [d1, d2, d3, d4] }
  | _ => none }
def WireCertsWrongFalsely : Prop := wireCertsRow.holds Try.pinned (OpenSpec.ofChange wireCertsWrong)

/-- 'outworkerlaw08.WireReads': WHATEVER THE INPUT: true; the input reads as it did. -/
def wireReadsSpec : ChangeSpec := { name := "wireReads", fn := fun _ => fun
  | [d1, d2, d3, d4, d5, d6] => { results := [.lit (.bool true)], args := [d1, d2, d3, d4, d5, d6] }
  | _ => none }
def wireReadsRow : OpenClaim := { program := "ythnoplfjcdkacaa", sum := "a909c6377c516d08cbb13a00bd0a0761fc84e2ec7a4638f976a3bf0c8584c84f", func := "outworker/outworkerlaw08.WireReads", spec := "wireReads", unfollowed := true, recurses := true, apart := false }
def WireReadsSaid : Prop := wireReadsRow.holds Try.pinned (OpenSpec.ofChange wireReadsSpec)

/-- ITS FALSE NEIGHBOUR: 'it returns false'. Refute it at one input. -/
def wireReadsWrong : ChangeSpec := { name := "wireReads", fn := fun _ => fun
  | [d1, d2, d3, d4, d5, d6] => { results := [.lit (.bool false)], args := [d1, d2, d3, d4, d5, d6] }
  | _ => none }
def WireReadsWrongFalsely : Prop := wireReadsRow.holds Try.pinned (OpenSpec.ofChange wireReadsWrong)

/-- 'outworkerlaw08.WireBack': WHATEVER THE INPUT: true; the input reads as it did. -/
def wireBackSpec : ChangeSpec := { name := "wireBack", fn := fun _ => fun
  | [d1, d2, d3, d4] => { results := [.lit (.bool true)], args := [d1, d2, d3, d4] }
  | _ => none }
def wireBackRow : OpenClaim := { program := "ythnoplfjcdkacaa", sum := "a909c6377c516d08cbb13a00bd0a0761fc84e2ec7a4638f976a3bf0c8584c84f", func := "outworker/outworkerlaw08.WireBack", spec := "wireBack", unfollowed := true, recurses := true, apart := false }
def WireBackSaid : Prop := wireBackRow.holds Try.pinned (OpenSpec.ofChange wireBackSpec)

/-- ITS FALSE NEIGHBOUR: 'it returns false'. Refute it at one input. -/
def wireBackWrong : ChangeSpec := { name := "wireBack", fn := fun _ => fun
  | [d1, d2, d3, d4] => { results := [.lit (.bool false)], args := [d1, d2, d3, d4] }
  | _ => none }
def WireBackWrongFalsely : Prop := wireBackRow.holds Try.pinned (OpenSpec.ofChange wireBackWrong)

/-- 'outworkerlaw08.WireOne': WHATEVER THE INPUT: true; the input reads as it did. -/
def wireOneSpec : ChangeSpec := { name := "wireOne", fn := fun _ => fun
  | [d1, d2, d3, d4] => { results := [.lit (.bool true)], args := [d1, d2, d3, d4] }
  | _ => none }
def wireOneRow : OpenClaim := { program := "ythnoplfjcdkacaa", sum := "a909c6377c516d08cbb13a00bd0a0761fc84e2ec7a4638f976a3bf0c8584c84f", func := "outworker/outworkerlaw08.WireOne", spec := "wireOne", unfollowed := true, recurses := true, apart := false }
def WireOneSaid : Prop := wireOneRow.holds Try.pinned (OpenSpec.ofChange wireOneSpec)

/-- ITS FALSE NEIGHBOUR: 'it returns false'. Refute it at one input. -/
def wireOneWrong : ChangeSpec := { name := "wireOne", fn := fun _ => fun
  | [d1, d2, d3, d4] => { results := [.lit (.bool false)], args := [d1, d2, d3, d4] }
  | _ => none }
def WireOneWrongFalsely : Prop := wireOneRow.holds Try.pinned (OpenSpec.ofChange wireOneWrong)

/- THE SECOND FORM. 'bulk': how many values and letters a reading holds, each counted each time it is reached (what is shared counts as often as it is met; a slice's spare places count too). A statement '..UptoSaid' is the law's where the arguments, and the package variables that the reading takes, are together of bulk at most 1048576: NARROWER than '..Said'. Prove '..Said' where nothing that the law and all that it calls make is longer than what came in: it says more and counts as full. Else prove '..UptoSaid'. A law counts once. -/
mutual
def uptoBulk {H : Type} : DataW H → Nat
  | .lit (.string bytes) => bytes.length + 1
  | .lit _ => 1
  | .nil => 1
  | .ptr d => uptoBulk d + 1
  | .slice elems spare => uptoBulkAll elems + uptoBulkAll spare + 1
  | .agg parts => uptoBulkAll parts + 1
  | .iface _ d => uptoBulk d + 1
  | .map entries => uptoBulkEntries entries + 1
  | .held _ => 1
def uptoBulkAll {H : Type} : List (DataW H) → Nat
  | [] => 0
  | d :: r => uptoBulk d + uptoBulkAll r
def uptoBulkEntries {H : Type} : List (Lit × DataW H) → Nat
  | [] => 0
  | x :: r => uptoBulkEntry x + uptoBulkEntries r
def uptoBulkEntry {H : Type} : Lit × DataW H → Nat
  | (.string bytes, d) => bytes.length + uptoBulk d + 1
  | (_, d) => uptoBulk d + 1
 end
def uptoSmall : (H : Type) → List (DataW H) → Bool := fun _ ds => decide (uptoBulkAll ds ≤ 1048576)
def OpenSpec.upto (s : _root_.Go.ChangeSpec) : _root_.Go.OpenSpec := { _root_.Go.OpenSpec.ofChange s with cond := some uptoSmall }

/-- 'outworkerlaw08.WireFuncs', WHERE WHAT IT READS IS OF BULK AT MOST 1048576: true; the input reads as it did. -/
def wireFuncsUptoRow : OpenClaim := { program := "ythnoplfjcdkacaa", sum := "a909c6377c516d08cbb13a00bd0a0761fc84e2ec7a4638f976a3bf0c8584c84f", func := "outworker/outworkerlaw08.WireFuncs", spec := "wireFuncs", apart := false, narrowed := true }
def WireFuncsUptoSaid : Prop := wireFuncsUptoRow.holds Try.pinned (OpenSpec.upto wireFuncsSpec)

/-- 'outworkerlaw08.WireApart', WHERE WHAT IT READS IS OF BULK AT MOST 1048576: true; the input reads as it did. -/
def wireApartUptoRow : OpenClaim := { program := "ythnoplfjcdkacaa", sum := "a909c6377c516d08cbb13a00bd0a0761fc84e2ec7a4638f976a3bf0c8584c84f", func := "outworker/outworkerlaw08.WireApart", spec := "wireApart", apart := false, narrowed := true }
def WireApartUptoSaid : Prop := wireApartUptoRow.holds Try.pinned (OpenSpec.upto wireApartSpec)

/-- 'outworkerlaw08.WireCodes', WHERE WHAT IT READS IS OF BULK AT MOST 1048576: true; the input reads as it did. -/
def wireCodesUptoRow : OpenClaim := { program := "ythnoplfjcdkacaa", sum := "a909c6377c516d08cbb13a00bd0a0761fc84e2ec7a4638f976a3bf0c8584c84f", func := "outworker/outworkerlaw08.WireCodes", spec := "wireCodes", unfollowed := true, recurses := true, apart := false, narrowed := true }
def WireCodesUptoSaid : Prop := wireCodesUptoRow.holds Try.pinned (OpenSpec.upto wireCodesSpec)

/-- 'outworkerlaw08.WireCerts', WHERE WHAT IT READS IS OF BULK AT MOST 1048576: true; the input reads as it did. -/
def wireCertsUptoRow : OpenClaim := { program := "ythnoplfjcdkacaa", sum := "a909c6377c516d08cbb13a00bd0a0761fc84e2ec7a4638f976a3bf0c8584c84f", func := "outworker/outworkerlaw08.WireCerts", spec := "wireCerts", apart := false, narrowed := true }
def WireCertsUptoSaid : Prop := wireCertsUptoRow.holds Try.pinned (OpenSpec.upto wireCertsSpec)

/-- 'outworkerlaw08.WireReads', WHERE WHAT IT READS IS OF BULK AT MOST 1048576: true; the input reads as it did. -/
def wireReadsUptoRow : OpenClaim := { program := "ythnoplfjcdkacaa", sum := "a909c6377c516d08cbb13a00bd0a0761fc84e2ec7a4638f976a3bf0c8584c84f", func := "outworker/outworkerlaw08.WireReads", spec := "wireReads", unfollowed := true, recurses := true, apart := false, narrowed := true }
def WireReadsUptoSaid : Prop := wireReadsUptoRow.holds Try.pinned (OpenSpec.upto wireReadsSpec)

/-- 'outworkerlaw08.WireBack', WHERE WHAT IT READS IS OF BULK AT MOST 1048576: true; the input reads as it did. -/
def wireBackUptoRow : OpenClaim := { program := "ythnoplfjcdkacaa", sum := "a909c6377c516d08cbb13a00bd0a0761fc84e2ec7a4638f976a3bf0c8584c84f", func := "outworker/outworkerlaw08.WireBack", spec := "wireBack", unfollowed := true, recurses := true, apart := false, narrowed := true }
def WireBackUptoSaid : Prop := wireBackUptoRow.holds Try.pinned (OpenSpec.upto wireBackSpec)

/-- 'outworkerlaw08.WireOne', WHERE WHAT IT READS IS OF BULK AT MOST 1048576: true; the input reads as it did. -/
def wireOneUptoRow : OpenClaim := { program := "ythnoplfjcdkacaa", sum := "a909c6377c516d08cbb13a00bd0a0761fc84e2ec7a4638f976a3bf0c8584c84f", func := "outworker/outworkerlaw08.WireOne", spec := "wireOne", unfollowed := true, recurses := true, apart := false, narrowed := true }
def WireOneUptoSaid : Prop := wireOneUptoRow.holds Try.pinned (OpenSpec.upto wireOneSpec)

end Rows
end Go.Proofs.Ythnoplfjcdkacaa
