/-
  NARROWER THAN 'FOR EVERY INPUT', by the rows' own cells (each row's printed sentence says how): FlowSets: laid · FlowStays: laid · FlowMore: laid · LiveEdges: laid · LiveTakes: laid · LiveAll: laid · LiveDead: laid · LiveGiven: laid.
  DERIVED. THE GIVEN ROWS OF THIS SEAT. 8 by the template 'for every input the law returns true; each argument reads behind the call as it read before'; 0 by the template 'total and deterministic' (their statements: YtbbicdfipheaeaaDoorTotals.lean).
  GIVEN WITH THE SEED: the statements are not yours to turn. If you find one false, say at which input.
  Laid BY PROGRAM, IN A SANDBOX (cutbox-rows.mjs): the forced cells as the released guide's own fill.sh prints them over the translation 0b8200a143501a6f… (all of the seat's roots in one cut). By AI agents, Wed Nov 11 2026. No macro, syntax, notation, axiom, sorry.
-/
import Derived.Test.YtbbicdfipheaeaaDoorChecked
import GoSem.Claim
import GoSem.ClaimJoined
import GoSem.ClaimMapViews
import Derived.JoinedTies
import Derived.KernelRfl
namespace Go.Proofs.YtbbicdfipheaeaaDoor
/- THE CELL 'sum', in the pinned program and in every row, IS THE sha256 OF THE DUMP (.gsa) THAT YtbbicdfipheaeaaDoorProg.lean LOADS. Nothing in Lean hashes anything: it is a label: what it is worth is what the hold of that sum in a sandbox is worth. -/
noncomputable def Tryd.pinned : Pinned := { name := "ytbbicdfipheaeaadoor", sum := "0b8200a143501a6fee2215fd27119c6bd5cab51698e8b236ce0c2afcbd174e57", checked := Tryd.checked }
namespace Rows
def none {H : Type} : Left H := { results := [], args := [] }

/- WHAT THE LISTED PACKAGE-LEVEL VARIABLES READ AS WHEN THE CALL BEGINS. Each datum BY PROGRAM (the guide's laid-datum.mjs) off the statement by which the dump's own 'gosem.cut.vars' lays the variable. In a bare row this is a premise. The card (YtbbicdfipheaeaaDoorCards.lean) ties it to the program's text. -/
def laid_math_bits_deBruijn64tab {H : Type} : DataW H := .agg [.lit (.int .u8 0), .lit (.int .u8 1), .lit (.int .u8 56), .lit (.int .u8 2), .lit (.int .u8 57), .lit (.int .u8 49), .lit (.int .u8 28), .lit (.int .u8 3), .lit (.int .u8 61), .lit (.int .u8 58), .lit (.int .u8 42), .lit (.int .u8 50), .lit (.int .u8 38), .lit (.int .u8 29), .lit (.int .u8 17), .lit (.int .u8 4), .lit (.int .u8 62), .lit (.int .u8 47), .lit (.int .u8 59), .lit (.int .u8 36), .lit (.int .u8 45), .lit (.int .u8 43), .lit (.int .u8 51), .lit (.int .u8 22), .lit (.int .u8 53), .lit (.int .u8 39), .lit (.int .u8 33), .lit (.int .u8 30), .lit (.int .u8 24), .lit (.int .u8 18), .lit (.int .u8 12), .lit (.int .u8 5), .lit (.int .u8 63), .lit (.int .u8 55), .lit (.int .u8 48), .lit (.int .u8 27), .lit (.int .u8 60), .lit (.int .u8 41), .lit (.int .u8 37), .lit (.int .u8 16), .lit (.int .u8 46), .lit (.int .u8 35), .lit (.int .u8 44), .lit (.int .u8 21), .lit (.int .u8 52), .lit (.int .u8 32), .lit (.int .u8 23), .lit (.int .u8 11), .lit (.int .u8 54), .lit (.int .u8 26), .lit (.int .u8 40), .lit (.int .u8 15), .lit (.int .u8 34), .lit (.int .u8 20), .lit (.int .u8 31), .lit (.int .u8 10), .lit (.int .u8 25), .lit (.int .u8 14), .lit (.int .u8 19), .lit (.int .u8 9), .lit (.int .u8 13), .lit (.int .u8 8), .lit (.int .u8 7), .lit (.int .u8 6)]

/-- 'outworkerlaw11.FlowSets': WHATEVER THE INPUT: true; the input reads as it did. -/
def flowSetsSpec : ChangeSpec := { name := "flowSets", fn := fun _ => fun
  | [d1, d2, d3, d4] => { results := [.lit (.bool true)], args := [d1, d2, d3, d4] }
  | _ => none }
def flowSetsRow : OpenClaim := { program := "ytbbicdfipheaeaadoor", sum := "0b8200a143501a6fee2215fd27119c6bd5cab51698e8b236ce0c2afcbd174e57", func := "outworker/outworkerlaw11.FlowSets", spec := "flowSets", unfollowed := true, recurses := true, named := ["math/bits.deBruijn64tab"], apart := false, laid := [("math/bits.deBruijn64tab", laid_math_bits_deBruijn64tab)] }
def FlowSetsSaid : Prop := flowSetsRow.holds Tryd.pinned (OpenSpec.ofChange flowSetsSpec)

/-- ITS FALSE NEIGHBOUR: 'it returns false'. Refute it at one input. -/
def flowSetsWrong : ChangeSpec := { name := "flowSets", fn := fun _ => fun
  | [d1, d2, d3, d4] => { results := [.lit (.bool false)], args := [d1, d2, d3, d4] }
  | _ => none }
def FlowSetsWrongFalsely : Prop := flowSetsRow.holds Tryd.pinned (OpenSpec.ofChange flowSetsWrong)

/-- 'outworkerlaw11.FlowStays': WHATEVER THE INPUT: true; the input reads as it did. -/
def flowStaysSpec : ChangeSpec := { name := "flowStays", fn := fun _ => fun
  | [d1, d2, d3, d4] => { results := [.lit (.bool true)], args := [d1, d2, d3, d4] }
  | _ => none }
def flowStaysRow : OpenClaim := { program := "ytbbicdfipheaeaadoor", sum := "0b8200a143501a6fee2215fd27119c6bd5cab51698e8b236ce0c2afcbd174e57", func := "outworker/outworkerlaw11.FlowStays", spec := "flowStays", unfollowed := true, recurses := true, named := ["math/bits.deBruijn64tab"], apart := false, laid := [("math/bits.deBruijn64tab", laid_math_bits_deBruijn64tab)] }
def FlowStaysSaid : Prop := flowStaysRow.holds Tryd.pinned (OpenSpec.ofChange flowStaysSpec)

/-- ITS FALSE NEIGHBOUR: 'it returns false'. Refute it at one input. -/
def flowStaysWrong : ChangeSpec := { name := "flowStays", fn := fun _ => fun
  | [d1, d2, d3, d4] => { results := [.lit (.bool false)], args := [d1, d2, d3, d4] }
  | _ => none }
def FlowStaysWrongFalsely : Prop := flowStaysRow.holds Tryd.pinned (OpenSpec.ofChange flowStaysWrong)

/-- 'outworkerlaw11.FlowMore': WHATEVER THE INPUT: true; the input reads as it did. -/
def flowMoreSpec : ChangeSpec := { name := "flowMore", fn := fun _ => fun
  | [d1, d2, d3, d4, d5] => { results := [.lit (.bool true)], args := [d1, d2, d3, d4, d5] }
  | _ => none }
def flowMoreRow : OpenClaim := { program := "ytbbicdfipheaeaadoor", sum := "0b8200a143501a6fee2215fd27119c6bd5cab51698e8b236ce0c2afcbd174e57", func := "outworker/outworkerlaw11.FlowMore", spec := "flowMore", unfollowed := true, recurses := true, named := ["math/bits.deBruijn64tab"], apart := false, laid := [("math/bits.deBruijn64tab", laid_math_bits_deBruijn64tab)] }
def FlowMoreSaid : Prop := flowMoreRow.holds Tryd.pinned (OpenSpec.ofChange flowMoreSpec)

/-- ITS FALSE NEIGHBOUR: 'it returns false'. Refute it at one input. -/
def flowMoreWrong : ChangeSpec := { name := "flowMore", fn := fun _ => fun
  | [d1, d2, d3, d4, d5] => { results := [.lit (.bool false)], args := [d1, d2, d3, d4, d5] }
  | _ => none }
def FlowMoreWrongFalsely : Prop := flowMoreRow.holds Tryd.pinned (OpenSpec.ofChange flowMoreWrong)

/-- 'outworkerlaw12.LiveEdges': WHATEVER THE INPUT: true; the input reads as it did. -/
def liveEdgesSpec : ChangeSpec := { name := "liveEdges", fn := fun _ => fun
  | [d1, d2] => { results := [.lit (.bool true)], args := [d1, d2] }
  | _ => none }
def liveEdgesRow : OpenClaim := { program := "ytbbicdfipheaeaadoor", sum := "0b8200a143501a6fee2215fd27119c6bd5cab51698e8b236ce0c2afcbd174e57", func := "outworker/outworkerlaw12.LiveEdges", spec := "liveEdges", unfollowed := true, recurses := true, named := ["math/bits.deBruijn64tab"], apart := false, laid := [("math/bits.deBruijn64tab", laid_math_bits_deBruijn64tab)] }
def LiveEdgesSaid : Prop := liveEdgesRow.holds Tryd.pinned (OpenSpec.ofChange liveEdgesSpec)

/-- ITS FALSE NEIGHBOUR: 'it returns false'. Refute it at one input. -/
def liveEdgesWrong : ChangeSpec := { name := "liveEdges", fn := fun _ => fun
  | [d1, d2] => { results := [.lit (.bool false)], args := [d1, d2] }
  | _ => none }
def LiveEdgesWrongFalsely : Prop := liveEdgesRow.holds Tryd.pinned (OpenSpec.ofChange liveEdgesWrong)

/-- 'outworkerlaw12.LiveTakes': WHATEVER THE INPUT: true; the input reads as it did. -/
def liveTakesSpec : ChangeSpec := { name := "liveTakes", fn := fun _ => fun
  | [d1, d2, d3, d4] => { results := [.lit (.bool true)], args := [d1, d2, d3, d4] }
  | _ => none }
def liveTakesRow : OpenClaim := { program := "ytbbicdfipheaeaadoor", sum := "0b8200a143501a6fee2215fd27119c6bd5cab51698e8b236ce0c2afcbd174e57", func := "outworker/outworkerlaw12.LiveTakes", spec := "liveTakes", unfollowed := true, recurses := true, named := ["math/bits.deBruijn64tab"], apart := false, laid := [("math/bits.deBruijn64tab", laid_math_bits_deBruijn64tab)] }
def LiveTakesSaid : Prop := liveTakesRow.holds Tryd.pinned (OpenSpec.ofChange liveTakesSpec)

/-- ITS FALSE NEIGHBOUR: 'it returns false'. Refute it at one input. -/
def liveTakesWrong : ChangeSpec := { name := "liveTakes", fn := fun _ => fun
  | [d1, d2, d3, d4] => { results := [.lit (.bool false)], args := [d1, d2, d3, d4] }
  | _ => none }
def LiveTakesWrongFalsely : Prop := liveTakesRow.holds Tryd.pinned (OpenSpec.ofChange liveTakesWrong)

/-- 'outworkerlaw12.LiveAll': WHATEVER THE INPUT: true; the input reads as it did. -/
def liveAllSpec : ChangeSpec := { name := "liveAll", fn := fun _ => fun
  | [d1, d2] => { results := [.lit (.bool true)], args := [d1, d2] }
  | _ => none }
def liveAllRow : OpenClaim := { program := "ytbbicdfipheaeaadoor", sum := "0b8200a143501a6fee2215fd27119c6bd5cab51698e8b236ce0c2afcbd174e57", func := "outworker/outworkerlaw12.LiveAll", spec := "liveAll", unfollowed := true, recurses := true, named := ["math/bits.deBruijn64tab"], apart := false, laid := [("math/bits.deBruijn64tab", laid_math_bits_deBruijn64tab)] }
def LiveAllSaid : Prop := liveAllRow.holds Tryd.pinned (OpenSpec.ofChange liveAllSpec)

/-- ITS FALSE NEIGHBOUR: 'it returns false'. Refute it at one input. -/
def liveAllWrong : ChangeSpec := { name := "liveAll", fn := fun _ => fun
  | [d1, d2] => { results := [.lit (.bool false)], args := [d1, d2] }
  | _ => none }
def LiveAllWrongFalsely : Prop := liveAllRow.holds Tryd.pinned (OpenSpec.ofChange liveAllWrong)

/-- 'outworkerlaw12.LiveDead': WHATEVER THE INPUT: true; the input reads as it did. -/
def liveDeadSpec : ChangeSpec := { name := "liveDead", fn := fun _ => fun
  | [d1, d2, d3, d4] => { results := [.lit (.bool true)], args := [d1, d2, d3, d4] }
  | _ => none }
def liveDeadRow : OpenClaim := { program := "ytbbicdfipheaeaadoor", sum := "0b8200a143501a6fee2215fd27119c6bd5cab51698e8b236ce0c2afcbd174e57", func := "outworker/outworkerlaw12.LiveDead", spec := "liveDead", unfollowed := true, recurses := true, named := ["math/bits.deBruijn64tab"], apart := false, laid := [("math/bits.deBruijn64tab", laid_math_bits_deBruijn64tab)] }
def LiveDeadSaid : Prop := liveDeadRow.holds Tryd.pinned (OpenSpec.ofChange liveDeadSpec)

/-- ITS FALSE NEIGHBOUR: 'it returns false'. Refute it at one input. -/
def liveDeadWrong : ChangeSpec := { name := "liveDead", fn := fun _ => fun
  | [d1, d2, d3, d4] => { results := [.lit (.bool false)], args := [d1, d2, d3, d4] }
  | _ => none }
def LiveDeadWrongFalsely : Prop := liveDeadRow.holds Tryd.pinned (OpenSpec.ofChange liveDeadWrong)

/-- 'outworkerlaw12.LiveGiven': WHATEVER THE INPUT: true; the input reads as it did. -/
def liveGivenSpec : ChangeSpec := { name := "liveGiven", fn := fun _ => fun
  | [d1, d2, d3, d4, d5, d6] => { results := [.lit (.bool true)], args := [d1, d2, d3, d4, d5, d6] }
  | _ => none }
def liveGivenRow : OpenClaim := { program := "ytbbicdfipheaeaadoor", sum := "0b8200a143501a6fee2215fd27119c6bd5cab51698e8b236ce0c2afcbd174e57", func := "outworker/outworkerlaw12.LiveGiven", spec := "liveGiven", unfollowed := true, recurses := true, named := ["math/bits.deBruijn64tab"], apart := false, laid := [("math/bits.deBruijn64tab", laid_math_bits_deBruijn64tab)] }
def LiveGivenSaid : Prop := liveGivenRow.holds Tryd.pinned (OpenSpec.ofChange liveGivenSpec)

/-- ITS FALSE NEIGHBOUR: 'it returns false'. Refute it at one input. -/
def liveGivenWrong : ChangeSpec := { name := "liveGiven", fn := fun _ => fun
  | [d1, d2, d3, d4, d5, d6] => { results := [.lit (.bool false)], args := [d1, d2, d3, d4, d5, d6] }
  | _ => none }
def LiveGivenWrongFalsely : Prop := liveGivenRow.holds Tryd.pinned (OpenSpec.ofChange liveGivenWrong)

/- THE SECOND FORM. 'bulk': how many values and letters a reading holds, each counted each time it is reached (what is shared counts as often as it is met; a slice's spare places count too). A statement '..UptoSaid' is the law's where the arguments, and the package variables that the reading takes, are together of bulk at most 1048576: NARROWER than '..Said'. Prove '..Said' where nothing that the law and all that it calls make is longer than what came in: it says more and counts as full. Else prove '..UptoSaid'. A law counts once. -/
mutual
def uptoBulk {H : Type} : DataW H → Nat
  | .lit (.string bytes) => bytes.length + 1
  | .lit _ => 1
  | .nil => 1
  | .ptr d => uptoBulk d + 1
  | .slice elems spare => uptoBulkAll elems + uptoBulkAll spare + 1
  | .agg parts => uptoBulkAll parts + 1
  | .iface _ d => uptoBulk d + 1
  | .map entries => uptoBulkEntries entries + 1
  | .held _ => 1
def uptoBulkAll {H : Type} : List (DataW H) → Nat
  | [] => 0
  | d :: r => uptoBulk d + uptoBulkAll r
def uptoBulkEntries {H : Type} : List (Lit × DataW H) → Nat
  | [] => 0
  | x :: r => uptoBulkEntry x + uptoBulkEntries r
def uptoBulkEntry {H : Type} : Lit × DataW H → Nat
  | (.string bytes, d) => bytes.length + uptoBulk d + 1
  | (_, d) => uptoBulk d + 1
 end
def uptoSmall : (H : Type) → List (DataW H) → Bool := fun _ ds => decide (uptoBulkAll ds ≤ 1048576)
def OpenSpec.upto (s : _root_.Go.ChangeSpec) : _root_.Go.OpenSpec := { _root_.Go.OpenSpec.ofChange s with cond := some uptoSmall }

/-- 'outworkerlaw11.FlowSets', WHERE WHAT IT READS IS OF BULK AT MOST 1048576: true; the input reads as it did. -/
def flowSetsUptoRow : OpenClaim := { program := "ytbbicdfipheaeaadoor", sum := "0b8200a143501a6fee2215fd27119c6bd5cab51698e8b236ce0c2afcbd174e57", func := "outworker/outworkerlaw11.FlowSets", spec := "flowSets", unfollowed := true, recurses := true, named := ["math/bits.deBruijn64tab"], apart := false, laid := [("math/bits.deBruijn64tab", laid_math_bits_deBruijn64tab)], narrowed := true }
def FlowSetsUptoSaid : Prop := flowSetsUptoRow.holds Tryd.pinned (OpenSpec.upto flowSetsSpec)

/-- 'outworkerlaw11.FlowStays', WHERE WHAT IT READS IS OF BULK AT MOST 1048576: true; the input reads as it did. -/
def flowStaysUptoRow : OpenClaim := { program := "ytbbicdfipheaeaadoor", sum := "0b8200a143501a6fee2215fd27119c6bd5cab51698e8b236ce0c2afcbd174e57", func := "outworker/outworkerlaw11.FlowStays", spec := "flowStays", unfollowed := true, recurses := true, named := ["math/bits.deBruijn64tab"], apart := false, laid := [("math/bits.deBruijn64tab", laid_math_bits_deBruijn64tab)], narrowed := true }
def FlowStaysUptoSaid : Prop := flowStaysUptoRow.holds Tryd.pinned (OpenSpec.upto flowStaysSpec)

/-- 'outworkerlaw11.FlowMore', WHERE WHAT IT READS IS OF BULK AT MOST 1048576: true; the input reads as it did. -/
def flowMoreUptoRow : OpenClaim := { program := "ytbbicdfipheaeaadoor", sum := "0b8200a143501a6fee2215fd27119c6bd5cab51698e8b236ce0c2afcbd174e57", func := "outworker/outworkerlaw11.FlowMore", spec := "flowMore", unfollowed := true, recurses := true, named := ["math/bits.deBruijn64tab"], apart := false, laid := [("math/bits.deBruijn64tab", laid_math_bits_deBruijn64tab)], narrowed := true }
def FlowMoreUptoSaid : Prop := flowMoreUptoRow.holds Tryd.pinned (OpenSpec.upto flowMoreSpec)

/-- 'outworkerlaw12.LiveEdges', WHERE WHAT IT READS IS OF BULK AT MOST 1048576: true; the input reads as it did. -/
def liveEdgesUptoRow : OpenClaim := { program := "ytbbicdfipheaeaadoor", sum := "0b8200a143501a6fee2215fd27119c6bd5cab51698e8b236ce0c2afcbd174e57", func := "outworker/outworkerlaw12.LiveEdges", spec := "liveEdges", unfollowed := true, recurses := true, named := ["math/bits.deBruijn64tab"], apart := false, laid := [("math/bits.deBruijn64tab", laid_math_bits_deBruijn64tab)], narrowed := true }
def LiveEdgesUptoSaid : Prop := liveEdgesUptoRow.holds Tryd.pinned (OpenSpec.upto liveEdgesSpec)

/-- 'outworkerlaw12.LiveTakes', WHERE WHAT IT READS IS OF BULK AT MOST 1048576: true; the input reads as it did. -/
def liveTakesUptoRow : OpenClaim := { program := "ytbbicdfipheaeaadoor", sum := "0b8200a143501a6fee2215fd27119c6bd5cab51698e8b236ce0c2afcbd174e57", func := "outworker/outworkerlaw12.LiveTakes", spec := "liveTakes", unfollowed := true, recurses := true, named := ["math/bits.deBruijn64tab"], apart := false, laid := [("math/bits.deBruijn64tab", laid_math_bits_deBruijn64tab)], narrowed := true }
def LiveTakesUptoSaid : Prop := liveTakesUptoRow.holds Tryd.pinned (OpenSpec.upto liveTakesSpec)

/-- 'outworkerlaw12.LiveAll', WHERE WHAT IT READS IS OF BULK AT MOST 1048576: true; the input reads as it did. -/
def liveAllUptoRow : OpenClaim := { program := "ytbbicdfipheaeaadoor", sum := "0b8200a143501a6fee2215fd27119c6bd5cab51698e8b236ce0c2afcbd174e57", func := "outworker/outworkerlaw12.LiveAll", spec := "liveAll", unfollowed := true, recurses := true, named := ["math/bits.deBruijn64tab"], apart := false, laid := [("math/bits.deBruijn64tab", laid_math_bits_deBruijn64tab)], narrowed := true }
def LiveAllUptoSaid : Prop := liveAllUptoRow.holds Tryd.pinned (OpenSpec.upto liveAllSpec)

/-- 'outworkerlaw12.LiveDead', WHERE WHAT IT READS IS OF BULK AT MOST 1048576: true; the input reads as it did. -/
def liveDeadUptoRow : OpenClaim := { program := "ytbbicdfipheaeaadoor", sum := "0b8200a143501a6fee2215fd27119c6bd5cab51698e8b236ce0c2afcbd174e57", func := "outworker/outworkerlaw12.LiveDead", spec := "liveDead", unfollowed := true, recurses := true, named := ["math/bits.deBruijn64tab"], apart := false, laid := [("math/bits.deBruijn64tab", laid_math_bits_deBruijn64tab)], narrowed := true }
def LiveDeadUptoSaid : Prop := liveDeadUptoRow.holds Tryd.pinned (OpenSpec.upto liveDeadSpec)

/-- 'outworkerlaw12.LiveGiven', WHERE WHAT IT READS IS OF BULK AT MOST 1048576: true; the input reads as it did. -/
def liveGivenUptoRow : OpenClaim := { program := "ytbbicdfipheaeaadoor", sum := "0b8200a143501a6fee2215fd27119c6bd5cab51698e8b236ce0c2afcbd174e57", func := "outworker/outworkerlaw12.LiveGiven", spec := "liveGiven", unfollowed := true, recurses := true, named := ["math/bits.deBruijn64tab"], apart := false, laid := [("math/bits.deBruijn64tab", laid_math_bits_deBruijn64tab)], narrowed := true }
def LiveGivenUptoSaid : Prop := liveGivenUptoRow.holds Tryd.pinned (OpenSpec.upto liveGivenSpec)

end Rows
end Go.Proofs.YtbbicdfipheaeaaDoor
