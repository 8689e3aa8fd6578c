/-
  NARROWER THAN 'FOR EVERY INPUT', by the rows' own cells (each row's printed sentence says how): SearchBest: laid · SearchRefuses: laid · SearchMore: laid · SearchApart: laid · ColourFits: laid · ColourRefuses: laid · ColourTrees: laid · ColourSame: laid.
  DERIVED. THE GIVEN ROWS OF THIS SEAT. 8 by the template 'for every input the law returns true; each argument reads behind the call as it read before'; 0 by the template 'total and deterministic' (their statements: YtbgfabppmobpgaaDoorTotals.lean).
  GIVEN WITH THE SEED: the statements are not yours to turn. If you find one false, say at which input.
  Laid BY PROGRAM, IN A SANDBOX (cutbox-rows.mjs): the forced cells as the released guide's own fill.sh prints them over the translation 32f639ed6b1f9309… (all of the seat's roots in one cut). By AI agents, Wed Nov 11 2026. No macro, syntax, notation, axiom, sorry.
-/
import Derived.Test.YtbgfabppmobpgaaDoorChecked
import GoSem.Claim
import GoSem.ClaimJoined
import GoSem.ClaimMapViews
import Derived.JoinedTies
import Derived.KernelRfl
namespace Go.Proofs.YtbgfabppmobpgaaDoor
/- THE CELL 'sum', in the pinned program and in every row, IS THE sha256 OF THE DUMP (.gsa) THAT YtbgfabppmobpgaaDoorProg.lean LOADS. Nothing in Lean hashes anything: it is a label: what it is worth is what the hold of that sum in a sandbox is worth. -/
noncomputable def Tryd.pinned : Pinned := { name := "ytbgfabppmobpgaadoor", sum := "32f639ed6b1f93098988c5fb054946f77dfaeb38faa7cfee5fa5ee13855c1c8b", checked := Tryd.checked }
namespace Rows
def none {H : Type} : Left H := { results := [], args := [] }

/- WHAT THE LISTED PACKAGE-LEVEL VARIABLES READ AS WHEN THE CALL BEGINS. Each datum BY PROGRAM (the guide's laid-datum.mjs) off the statement by which the dump's own 'gosem.cut.vars' lays the variable. In a bare row this is a premise. The card (YtbgfabppmobpgaaDoorCards.lean) ties it to the program's text. -/
def laid_math_bits_deBruijn64tab {H : Type} : DataW H := .agg [.lit (.int .u8 0), .lit (.int .u8 1), .lit (.int .u8 56), .lit (.int .u8 2), .lit (.int .u8 57), .lit (.int .u8 49), .lit (.int .u8 28), .lit (.int .u8 3), .lit (.int .u8 61), .lit (.int .u8 58), .lit (.int .u8 42), .lit (.int .u8 50), .lit (.int .u8 38), .lit (.int .u8 29), .lit (.int .u8 17), .lit (.int .u8 4), .lit (.int .u8 62), .lit (.int .u8 47), .lit (.int .u8 59), .lit (.int .u8 36), .lit (.int .u8 45), .lit (.int .u8 43), .lit (.int .u8 51), .lit (.int .u8 22), .lit (.int .u8 53), .lit (.int .u8 39), .lit (.int .u8 33), .lit (.int .u8 30), .lit (.int .u8 24), .lit (.int .u8 18), .lit (.int .u8 12), .lit (.int .u8 5), .lit (.int .u8 63), .lit (.int .u8 55), .lit (.int .u8 48), .lit (.int .u8 27), .lit (.int .u8 60), .lit (.int .u8 41), .lit (.int .u8 37), .lit (.int .u8 16), .lit (.int .u8 46), .lit (.int .u8 35), .lit (.int .u8 44), .lit (.int .u8 21), .lit (.int .u8 52), .lit (.int .u8 32), .lit (.int .u8 23), .lit (.int .u8 11), .lit (.int .u8 54), .lit (.int .u8 26), .lit (.int .u8 40), .lit (.int .u8 15), .lit (.int .u8 34), .lit (.int .u8 20), .lit (.int .u8 31), .lit (.int .u8 10), .lit (.int .u8 25), .lit (.int .u8 14), .lit (.int .u8 19), .lit (.int .u8 9), .lit (.int .u8 13), .lit (.int .u8 8), .lit (.int .u8 7), .lit (.int .u8 6)]

/-- 'outworkerlaw17.SearchBest': WHATEVER THE INPUT: true; the input reads as it did. -/
def searchBestSpec : ChangeSpec := { name := "searchBest", fn := fun _ => fun
  | [d1, d2, d3, d4] => { results := [.lit (.bool true)], args := [d1, d2, d3, d4] }
  | _ => none }
def searchBestRow : OpenClaim := { program := "ytbgfabppmobpgaadoor", sum := "32f639ed6b1f93098988c5fb054946f77dfaeb38faa7cfee5fa5ee13855c1c8b", func := "outworker/outworkerlaw17.SearchBest", spec := "searchBest", unfollowed := true, recurses := true, named := ["math/bits.deBruijn64tab"], apart := false, laid := [("math/bits.deBruijn64tab", laid_math_bits_deBruijn64tab)] }
def SearchBestSaid : Prop := searchBestRow.holds Tryd.pinned (OpenSpec.ofChange searchBestSpec)

/-- ITS FALSE NEIGHBOUR: 'it returns false'. Refute it at one input. -/
def searchBestWrong : ChangeSpec := { name := "searchBest", fn := fun _ => fun
  | [d1, d2, d3, d4] => { results := [.lit (.bool false)], args := [d1, d2, d3, d4] }
  | _ => none }
def SearchBestWrongFalsely : Prop := searchBestRow.holds Tryd.pinned (OpenSpec.ofChange searchBestWrong)

/-- 'outworkerlaw17.SearchRefuses': WHATEVER THE INPUT: true; the input reads as it did. -/
def searchRefusesSpec : ChangeSpec := { name := "searchRefuses", fn := fun _ => fun
  | [d1, d2, d3] => { results := [.lit (.bool true)], args := [d1, d2, d3] }
  | _ => none }
def searchRefusesRow : OpenClaim := { program := "ytbgfabppmobpgaadoor", sum := "32f639ed6b1f93098988c5fb054946f77dfaeb38faa7cfee5fa5ee13855c1c8b", func := "outworker/outworkerlaw17.SearchRefuses", spec := "searchRefuses", unfollowed := true, recurses := true, named := ["math/bits.deBruijn64tab"], apart := false, laid := [("math/bits.deBruijn64tab", laid_math_bits_deBruijn64tab)] }
def SearchRefusesSaid : Prop := searchRefusesRow.holds Tryd.pinned (OpenSpec.ofChange searchRefusesSpec)

/-- ITS FALSE NEIGHBOUR: 'it returns false'. Refute it at one input. -/
def searchRefusesWrong : ChangeSpec := { name := "searchRefuses", fn := fun _ => fun
  | [d1, d2, d3] => { results := [.lit (.bool false)], args := [d1, d2, d3] }
  | _ => none }
def SearchRefusesWrongFalsely : Prop := searchRefusesRow.holds Tryd.pinned (OpenSpec.ofChange searchRefusesWrong)

/-- 'outworkerlaw17.SearchMore': WHATEVER THE INPUT: true; the input reads as it did. -/
def searchMoreSpec : ChangeSpec := { name := "searchMore", fn := fun _ => fun
  | [d1, d2, d3, d4, d5] => { results := [.lit (.bool true)], args := [d1, d2, d3, d4, d5] }
  | _ => none }
def searchMoreRow : OpenClaim := { program := "ytbgfabppmobpgaadoor", sum := "32f639ed6b1f93098988c5fb054946f77dfaeb38faa7cfee5fa5ee13855c1c8b", func := "outworker/outworkerlaw17.SearchMore", spec := "searchMore", unfollowed := true, recurses := true, named := ["math/bits.deBruijn64tab"], apart := false, laid := [("math/bits.deBruijn64tab", laid_math_bits_deBruijn64tab)] }
def SearchMoreSaid : Prop := searchMoreRow.holds Tryd.pinned (OpenSpec.ofChange searchMoreSpec)

/-- ITS FALSE NEIGHBOUR: 'it returns false'. Refute it at one input. -/
def searchMoreWrong : ChangeSpec := { name := "searchMore", fn := fun _ => fun
  | [d1, d2, d3, d4, d5] => { results := [.lit (.bool false)], args := [d1, d2, d3, d4, d5] }
  | _ => none }
def SearchMoreWrongFalsely : Prop := searchMoreRow.holds Tryd.pinned (OpenSpec.ofChange searchMoreWrong)

/-- 'outworkerlaw17.SearchApart': WHATEVER THE INPUT: true; the input reads as it did. -/
def searchApartSpec : ChangeSpec := { name := "searchApart", fn := fun _ => fun
  | [d1, d2, d3, d4, d5, d6] => { results := [.lit (.bool true)], args := [d1, d2, d3, d4, d5, d6] }
  | _ => none }
def searchApartRow : OpenClaim := { program := "ytbgfabppmobpgaadoor", sum := "32f639ed6b1f93098988c5fb054946f77dfaeb38faa7cfee5fa5ee13855c1c8b", func := "outworker/outworkerlaw17.SearchApart", spec := "searchApart", unfollowed := true, recurses := true, named := ["math/bits.deBruijn64tab"], apart := false, laid := [("math/bits.deBruijn64tab", laid_math_bits_deBruijn64tab)] }
def SearchApartSaid : Prop := searchApartRow.holds Tryd.pinned (OpenSpec.ofChange searchApartSpec)

/-- ITS FALSE NEIGHBOUR: 'it returns false'. Refute it at one input. -/
def searchApartWrong : ChangeSpec := { name := "searchApart", fn := fun _ => fun
  | [d1, d2, d3, d4, d5, d6] => { results := [.lit (.bool false)], args := [d1, d2, d3, d4, d5, d6] }
  | _ => none }
def SearchApartWrongFalsely : Prop := searchApartRow.holds Tryd.pinned (OpenSpec.ofChange searchApartWrong)

/-- 'outworkerlaw16.ColourFits': WHATEVER THE INPUT: true; the input reads as it did. -/
def colourFitsSpec : ChangeSpec := { name := "colourFits", fn := fun _ => fun
  | [d1, d2, d3, d4, d5] => { results := [.lit (.bool true)], args := [d1, d2, d3, d4, d5] }
  | _ => none }
def colourFitsRow : OpenClaim := { program := "ytbgfabppmobpgaadoor", sum := "32f639ed6b1f93098988c5fb054946f77dfaeb38faa7cfee5fa5ee13855c1c8b", func := "outworker/outworkerlaw16.ColourFits", spec := "colourFits", unfollowed := true, recurses := true, named := ["math/bits.deBruijn64tab"], apart := false, laid := [("math/bits.deBruijn64tab", laid_math_bits_deBruijn64tab)] }
def ColourFitsSaid : Prop := colourFitsRow.holds Tryd.pinned (OpenSpec.ofChange colourFitsSpec)

/-- ITS FALSE NEIGHBOUR: 'it returns false'. Refute it at one input. -/
def colourFitsWrong : ChangeSpec := { name := "colourFits", fn := fun _ => fun
  | [d1, d2, d3, d4, d5] => { results := [.lit (.bool false)], args := [d1, d2, d3, d4, d5] }
  | _ => none }
def ColourFitsWrongFalsely : Prop := colourFitsRow.holds Tryd.pinned (OpenSpec.ofChange colourFitsWrong)

/-- 'outworkerlaw16.ColourRefuses': WHATEVER THE INPUT: true; the input reads as it did. -/
def colourRefusesSpec : ChangeSpec := { name := "colourRefuses", fn := fun _ => fun
  | [d1, d2, d3] => { results := [.lit (.bool true)], args := [d1, d2, d3] }
  | _ => none }
def colourRefusesRow : OpenClaim := { program := "ytbgfabppmobpgaadoor", sum := "32f639ed6b1f93098988c5fb054946f77dfaeb38faa7cfee5fa5ee13855c1c8b", func := "outworker/outworkerlaw16.ColourRefuses", spec := "colourRefuses", unfollowed := true, recurses := true, named := ["math/bits.deBruijn64tab"], apart := false, laid := [("math/bits.deBruijn64tab", laid_math_bits_deBruijn64tab)] }
def ColourRefusesSaid : Prop := colourRefusesRow.holds Tryd.pinned (OpenSpec.ofChange colourRefusesSpec)

/-- ITS FALSE NEIGHBOUR: 'it returns false'. Refute it at one input. -/
def colourRefusesWrong : ChangeSpec := { name := "colourRefuses", fn := fun _ => fun
  | [d1, d2, d3] => { results := [.lit (.bool false)], args := [d1, d2, d3] }
  | _ => none }
def ColourRefusesWrongFalsely : Prop := colourRefusesRow.holds Tryd.pinned (OpenSpec.ofChange colourRefusesWrong)

/-- 'outworkerlaw16.ColourTrees': WHATEVER THE INPUT: true; the input reads as it did. -/
def colourTreesSpec : ChangeSpec := { name := "colourTrees", fn := fun _ => fun
  | [d1, d2] => { results := [.lit (.bool true)], args := [d1, d2] }
  | _ => none }
def colourTreesRow : OpenClaim := { program := "ytbgfabppmobpgaadoor", sum := "32f639ed6b1f93098988c5fb054946f77dfaeb38faa7cfee5fa5ee13855c1c8b", func := "outworker/outworkerlaw16.ColourTrees", spec := "colourTrees", unfollowed := true, recurses := true, named := ["math/bits.deBruijn64tab"], apart := false, laid := [("math/bits.deBruijn64tab", laid_math_bits_deBruijn64tab)] }
def ColourTreesSaid : Prop := colourTreesRow.holds Tryd.pinned (OpenSpec.ofChange colourTreesSpec)

/-- ITS FALSE NEIGHBOUR: 'it returns false'. Refute it at one input. -/
def colourTreesWrong : ChangeSpec := { name := "colourTrees", fn := fun _ => fun
  | [d1, d2] => { results := [.lit (.bool false)], args := [d1, d2] }
  | _ => none }
def ColourTreesWrongFalsely : Prop := colourTreesRow.holds Tryd.pinned (OpenSpec.ofChange colourTreesWrong)

/-- 'outworkerlaw16.ColourSame': WHATEVER THE INPUT: true; the input reads as it did. -/
def colourSameSpec : ChangeSpec := { name := "colourSame", fn := fun _ => fun
  | [d1, d2, d3, d4, d5] => { results := [.lit (.bool true)], args := [d1, d2, d3, d4, d5] }
  | _ => none }
def colourSameRow : OpenClaim := { program := "ytbgfabppmobpgaadoor", sum := "32f639ed6b1f93098988c5fb054946f77dfaeb38faa7cfee5fa5ee13855c1c8b", func := "outworker/outworkerlaw16.ColourSame", spec := "colourSame", unfollowed := true, recurses := true, named := ["math/bits.deBruijn64tab"], apart := false, laid := [("math/bits.deBruijn64tab", laid_math_bits_deBruijn64tab)] }
def ColourSameSaid : Prop := colourSameRow.holds Tryd.pinned (OpenSpec.ofChange colourSameSpec)

/-- ITS FALSE NEIGHBOUR: 'it returns false'. Refute it at one input. -/
def colourSameWrong : ChangeSpec := { name := "colourSame", fn := fun _ => fun
  | [d1, d2, d3, d4, d5] => { results := [.lit (.bool false)], args := [d1, d2, d3, d4, d5] }
  | _ => none }
def ColourSameWrongFalsely : Prop := colourSameRow.holds Tryd.pinned (OpenSpec.ofChange colourSameWrong)

/- THE SECOND FORM. 'bulk': how many values and letters a reading holds, each counted each time it is reached (what is shared counts as often as it is met; a slice's spare places count too). A statement '..UptoSaid' is the law's where the arguments, and the package variables that the reading takes, are together of bulk at most 1048576: NARROWER than '..Said'. Prove '..Said' where nothing that the law and all that it calls make is longer than what came in: it says more and counts as full. Else prove '..UptoSaid'. A law counts once. -/
mutual
def uptoBulk {H : Type} : DataW H → Nat
  | .lit (.string bytes) => bytes.length + 1
  | .lit _ => 1
  | .nil => 1
  | .ptr d => uptoBulk d + 1
  | .slice elems spare => uptoBulkAll elems + uptoBulkAll spare + 1
  | .agg parts => uptoBulkAll parts + 1
  | .iface _ d => uptoBulk d + 1
  | .map entries => uptoBulkEntries entries + 1
  | .held _ => 1
def uptoBulkAll {H : Type} : List (DataW H) → Nat
  | [] => 0
  | d :: r => uptoBulk d + uptoBulkAll r
def uptoBulkEntries {H : Type} : List (Lit × DataW H) → Nat
  | [] => 0
  | x :: r => uptoBulkEntry x + uptoBulkEntries r
def uptoBulkEntry {H : Type} : Lit × DataW H → Nat
  | (.string bytes, d) => bytes.length + uptoBulk d + 1
  | (_, d) => uptoBulk d + 1
 end
def uptoSmall : (H : Type) → List (DataW H) → Bool := fun _ ds => decide (uptoBulkAll ds ≤ 1048576)
def OpenSpec.upto (s : _root_.Go.ChangeSpec) : _root_.Go.OpenSpec := { _root_.Go.OpenSpec.ofChange s with cond := some uptoSmall }

/-- 'outworkerlaw17.SearchBest', WHERE WHAT IT READS IS OF BULK AT MOST 1048576: true; the input reads as it did. -/
def searchBestUptoRow : OpenClaim := { program := "ytbgfabppmobpgaadoor", sum := "32f639ed6b1f93098988c5fb054946f77dfaeb38faa7cfee5fa5ee13855c1c8b", func := "outworker/outworkerlaw17.SearchBest", spec := "searchBest", unfollowed := true, recurses := true, named := ["math/bits.deBruijn64tab"], apart := false, laid := [("math/bits.deBruijn64tab", laid_math_bits_deBruijn64tab)], narrowed := true }
def SearchBestUptoSaid : Prop := searchBestUptoRow.holds Tryd.pinned (OpenSpec.upto searchBestSpec)

/-- 'outworkerlaw17.SearchRefuses', WHERE WHAT IT READS IS OF BULK AT MOST 1048576: true; the input reads as it did. -/
def searchRefusesUptoRow : OpenClaim := { program := "ytbgfabppmobpgaadoor", sum := "32f639ed6b1f93098988c5fb054946f77dfaeb38faa7cfee5fa5ee13855c1c8b", func := "outworker/outworkerlaw17.SearchRefuses", spec := "searchRefuses", unfollowed := true, recurses := true, named := ["math/bits.deBruijn64tab"], apart := false, laid := [("math/bits.deBruijn64tab", laid_math_bits_deBruijn64tab)], narrowed := true }
def SearchRefusesUptoSaid : Prop := searchRefusesUptoRow.holds Tryd.pinned (OpenSpec.upto searchRefusesSpec)

/-- 'outworkerlaw17.SearchMore', WHERE WHAT IT READS IS OF BULK AT MOST 1048576: true; the input reads as it did. -/
def searchMoreUptoRow : OpenClaim := { program := "ytbgfabppmobpgaadoor", sum := "32f639ed6b1f93098988c5fb054946f77dfaeb38faa7cfee5fa5ee13855c1c8b", func := "outworker/outworkerlaw17.SearchMore", spec := "searchMore", unfollowed := true, recurses := true, named := ["math/bits.deBruijn64tab"], apart := false, laid := [("math/bits.deBruijn64tab", laid_math_bits_deBruijn64tab)], narrowed := true }
def SearchMoreUptoSaid : Prop := searchMoreUptoRow.holds Tryd.pinned (OpenSpec.upto searchMoreSpec)

/-- 'outworkerlaw17.SearchApart', WHERE WHAT IT READS IS OF BULK AT MOST 1048576: true; the input reads as it did. -/
def searchApartUptoRow : OpenClaim := { program := "ytbgfabppmobpgaadoor", sum := "32f639ed6b1f93098988c5fb054946f77dfaeb38faa7cfee5fa5ee13855c1c8b", func := "outworker/outworkerlaw17.SearchApart", spec := "searchApart", unfollowed := true, recurses := true, named := ["math/bits.deBruijn64tab"], apart := false, laid := [("math/bits.deBruijn64tab", laid_math_bits_deBruijn64tab)], narrowed := true }
def SearchApartUptoSaid : Prop := searchApartUptoRow.holds Tryd.pinned (OpenSpec.upto searchApartSpec)

/-- 'outworkerlaw16.ColourFits', WHERE WHAT IT READS IS OF BULK AT MOST 1048576: true; the input reads as it did. -/
def colourFitsUptoRow : OpenClaim := { program := "ytbgfabppmobpgaadoor", sum := "32f639ed6b1f93098988c5fb054946f77dfaeb38faa7cfee5fa5ee13855c1c8b", func := "outworker/outworkerlaw16.ColourFits", spec := "colourFits", unfollowed := true, recurses := true, named := ["math/bits.deBruijn64tab"], apart := false, laid := [("math/bits.deBruijn64tab", laid_math_bits_deBruijn64tab)], narrowed := true }
def ColourFitsUptoSaid : Prop := colourFitsUptoRow.holds Tryd.pinned (OpenSpec.upto colourFitsSpec)

/-- 'outworkerlaw16.ColourRefuses', WHERE WHAT IT READS IS OF BULK AT MOST 1048576: true; the input reads as it did. -/
def colourRefusesUptoRow : OpenClaim := { program := "ytbgfabppmobpgaadoor", sum := "32f639ed6b1f93098988c5fb054946f77dfaeb38faa7cfee5fa5ee13855c1c8b", func := "outworker/outworkerlaw16.ColourRefuses", spec := "colourRefuses", unfollowed := true, recurses := true, named := ["math/bits.deBruijn64tab"], apart := false, laid := [("math/bits.deBruijn64tab", laid_math_bits_deBruijn64tab)], narrowed := true }
def ColourRefusesUptoSaid : Prop := colourRefusesUptoRow.holds Tryd.pinned (OpenSpec.upto colourRefusesSpec)

/-- 'outworkerlaw16.ColourTrees', WHERE WHAT IT READS IS OF BULK AT MOST 1048576: true; the input reads as it did. -/
def colourTreesUptoRow : OpenClaim := { program := "ytbgfabppmobpgaadoor", sum := "32f639ed6b1f93098988c5fb054946f77dfaeb38faa7cfee5fa5ee13855c1c8b", func := "outworker/outworkerlaw16.ColourTrees", spec := "colourTrees", unfollowed := true, recurses := true, named := ["math/bits.deBruijn64tab"], apart := false, laid := [("math/bits.deBruijn64tab", laid_math_bits_deBruijn64tab)], narrowed := true }
def ColourTreesUptoSaid : Prop := colourTreesUptoRow.holds Tryd.pinned (OpenSpec.upto colourTreesSpec)

/-- 'outworkerlaw16.ColourSame', WHERE WHAT IT READS IS OF BULK AT MOST 1048576: true; the input reads as it did. -/
def colourSameUptoRow : OpenClaim := { program := "ytbgfabppmobpgaadoor", sum := "32f639ed6b1f93098988c5fb054946f77dfaeb38faa7cfee5fa5ee13855c1c8b", func := "outworker/outworkerlaw16.ColourSame", spec := "colourSame", unfollowed := true, recurses := true, named := ["math/bits.deBruijn64tab"], apart := false, laid := [("math/bits.deBruijn64tab", laid_math_bits_deBruijn64tab)], narrowed := true }
def ColourSameUptoSaid : Prop := colourSameUptoRow.holds Tryd.pinned (OpenSpec.upto colourSameSpec)

end Rows
end Go.Proofs.YtbgfabppmobpgaaDoor
