/-
  DERIVED. GIVEN WITH THE SEED: THE CARDS: each row of YtbbicdfipheaeaaDoorRows.lean that lists a variable, with what it lists TIED to the program's text (the seventh form; the later family's looks); each row that meets fmt, with fmt's text TOLD by the authors' own Lean function (tested against real Go, not proved from fmt's source: count such statements apart). THE CARD IS WHAT COUNTS. Prove the row's statement (the work); the ties are given (YtbbicdfipheaeaaDoorTie.lean); close each card by the builder's one call (the guide's Derived/Test/ToyasCard.lean, 'card_holds'). Laid BY PROGRAM, IN A SANDBOX (cutbox-door.mjs). By AI agents, Wed Nov 11 2026. No macro, syntax, notation, axiom, sorry.
-/
import Derived.Test.YtbbicdfipheaeaaDoorRows
import GoSem.ClaimSeven
namespace Go.Proofs.YtbbicdfipheaeaaDoor
namespace Rows

/-- THE TIED CARD OF 'outworkerlaw11.FlowSets'. -/
def flowSetsCard : Claim7 := { stood := { row := flowSetsRow, standIns := [], harness := (true, "8ff38404af680b550b91fe5fd74526250c7ed431e07fb59fa8b09eeffdac340c"), looks := false }, kinds := [], alts := [], laidByText := true, laidKinds := [.data], laidTests := true, laidLooks := .later }
def FlowSetsCardSaid : Prop := Claim7.holds Tryd.pinned (.plain (OpenSpec.ofChange flowSetsSpec)) flowSetsCard

/-- THE TIED CARD OF 'outworkerlaw11.FlowStays'. -/
def flowStaysCard : Claim7 := { stood := { row := flowStaysRow, standIns := [], harness := (true, "8ff38404af680b550b91fe5fd74526250c7ed431e07fb59fa8b09eeffdac340c"), looks := false }, kinds := [], alts := [], laidByText := true, laidKinds := [.data], laidTests := true, laidLooks := .later }
def FlowStaysCardSaid : Prop := Claim7.holds Tryd.pinned (.plain (OpenSpec.ofChange flowStaysSpec)) flowStaysCard

/-- THE TIED CARD OF 'outworkerlaw11.FlowMore'. -/
def flowMoreCard : Claim7 := { stood := { row := flowMoreRow, standIns := [], harness := (true, "8ff38404af680b550b91fe5fd74526250c7ed431e07fb59fa8b09eeffdac340c"), looks := false }, kinds := [], alts := [], laidByText := true, laidKinds := [.data], laidTests := true, laidLooks := .later }
def FlowMoreCardSaid : Prop := Claim7.holds Tryd.pinned (.plain (OpenSpec.ofChange flowMoreSpec)) flowMoreCard

/-- THE TIED CARD OF 'outworkerlaw12.LiveEdges'. -/
def liveEdgesCard : Claim7 := { stood := { row := liveEdgesRow, standIns := [], harness := (true, "8ff38404af680b550b91fe5fd74526250c7ed431e07fb59fa8b09eeffdac340c"), looks := false }, kinds := [], alts := [], laidByText := true, laidKinds := [.data], laidTests := true, laidLooks := .later }
def LiveEdgesCardSaid : Prop := Claim7.holds Tryd.pinned (.plain (OpenSpec.ofChange liveEdgesSpec)) liveEdgesCard

/-- THE TIED CARD OF 'outworkerlaw12.LiveTakes'. -/
def liveTakesCard : Claim7 := { stood := { row := liveTakesRow, standIns := [], harness := (true, "8ff38404af680b550b91fe5fd74526250c7ed431e07fb59fa8b09eeffdac340c"), looks := false }, kinds := [], alts := [], laidByText := true, laidKinds := [.data], laidTests := true, laidLooks := .later }
def LiveTakesCardSaid : Prop := Claim7.holds Tryd.pinned (.plain (OpenSpec.ofChange liveTakesSpec)) liveTakesCard

/-- THE TIED CARD OF 'outworkerlaw12.LiveAll'. -/
def liveAllCard : Claim7 := { stood := { row := liveAllRow, standIns := [], harness := (true, "8ff38404af680b550b91fe5fd74526250c7ed431e07fb59fa8b09eeffdac340c"), looks := false }, kinds := [], alts := [], laidByText := true, laidKinds := [.data], laidTests := true, laidLooks := .later }
def LiveAllCardSaid : Prop := Claim7.holds Tryd.pinned (.plain (OpenSpec.ofChange liveAllSpec)) liveAllCard

/-- THE TIED CARD OF 'outworkerlaw12.LiveDead'. -/
def liveDeadCard : Claim7 := { stood := { row := liveDeadRow, standIns := [], harness := (true, "8ff38404af680b550b91fe5fd74526250c7ed431e07fb59fa8b09eeffdac340c"), looks := false }, kinds := [], alts := [], laidByText := true, laidKinds := [.data], laidTests := true, laidLooks := .later }
def LiveDeadCardSaid : Prop := Claim7.holds Tryd.pinned (.plain (OpenSpec.ofChange liveDeadSpec)) liveDeadCard

/-- THE TIED CARD OF 'outworkerlaw12.LiveGiven'. -/
def liveGivenCard : Claim7 := { stood := { row := liveGivenRow, standIns := [], harness := (true, "8ff38404af680b550b91fe5fd74526250c7ed431e07fb59fa8b09eeffdac340c"), looks := false }, kinds := [], alts := [], laidByText := true, laidKinds := [.data], laidTests := true, laidLooks := .later }
def LiveGivenCardSaid : Prop := Claim7.holds Tryd.pinned (.plain (OpenSpec.ofChange liveGivenSpec)) liveGivenCard

/-- THE SECOND FORM's CARD OF 'outworkerlaw11.FlowSets'. -/
def flowSetsUptoCard : Claim7 := { stood := { row := flowSetsUptoRow, standIns := [], harness := (true, "8ff38404af680b550b91fe5fd74526250c7ed431e07fb59fa8b09eeffdac340c"), looks := false }, kinds := [], alts := [], laidByText := true, laidKinds := [.data], laidTests := true, laidLooks := .later }
def FlowSetsUptoCardSaid : Prop := Claim7.holds Tryd.pinned (.plain (OpenSpec.upto flowSetsSpec)) flowSetsUptoCard

/-- THE SECOND FORM's CARD OF 'outworkerlaw11.FlowStays'. -/
def flowStaysUptoCard : Claim7 := { stood := { row := flowStaysUptoRow, standIns := [], harness := (true, "8ff38404af680b550b91fe5fd74526250c7ed431e07fb59fa8b09eeffdac340c"), looks := false }, kinds := [], alts := [], laidByText := true, laidKinds := [.data], laidTests := true, laidLooks := .later }
def FlowStaysUptoCardSaid : Prop := Claim7.holds Tryd.pinned (.plain (OpenSpec.upto flowStaysSpec)) flowStaysUptoCard

/-- THE SECOND FORM's CARD OF 'outworkerlaw11.FlowMore'. -/
def flowMoreUptoCard : Claim7 := { stood := { row := flowMoreUptoRow, standIns := [], harness := (true, "8ff38404af680b550b91fe5fd74526250c7ed431e07fb59fa8b09eeffdac340c"), looks := false }, kinds := [], alts := [], laidByText := true, laidKinds := [.data], laidTests := true, laidLooks := .later }
def FlowMoreUptoCardSaid : Prop := Claim7.holds Tryd.pinned (.plain (OpenSpec.upto flowMoreSpec)) flowMoreUptoCard

/-- THE SECOND FORM's CARD OF 'outworkerlaw12.LiveEdges'. -/
def liveEdgesUptoCard : Claim7 := { stood := { row := liveEdgesUptoRow, standIns := [], harness := (true, "8ff38404af680b550b91fe5fd74526250c7ed431e07fb59fa8b09eeffdac340c"), looks := false }, kinds := [], alts := [], laidByText := true, laidKinds := [.data], laidTests := true, laidLooks := .later }
def LiveEdgesUptoCardSaid : Prop := Claim7.holds Tryd.pinned (.plain (OpenSpec.upto liveEdgesSpec)) liveEdgesUptoCard

/-- THE SECOND FORM's CARD OF 'outworkerlaw12.LiveTakes'. -/
def liveTakesUptoCard : Claim7 := { stood := { row := liveTakesUptoRow, standIns := [], harness := (true, "8ff38404af680b550b91fe5fd74526250c7ed431e07fb59fa8b09eeffdac340c"), looks := false }, kinds := [], alts := [], laidByText := true, laidKinds := [.data], laidTests := true, laidLooks := .later }
def LiveTakesUptoCardSaid : Prop := Claim7.holds Tryd.pinned (.plain (OpenSpec.upto liveTakesSpec)) liveTakesUptoCard

/-- THE SECOND FORM's CARD OF 'outworkerlaw12.LiveAll'. -/
def liveAllUptoCard : Claim7 := { stood := { row := liveAllUptoRow, standIns := [], harness := (true, "8ff38404af680b550b91fe5fd74526250c7ed431e07fb59fa8b09eeffdac340c"), looks := false }, kinds := [], alts := [], laidByText := true, laidKinds := [.data], laidTests := true, laidLooks := .later }
def LiveAllUptoCardSaid : Prop := Claim7.holds Tryd.pinned (.plain (OpenSpec.upto liveAllSpec)) liveAllUptoCard

/-- THE SECOND FORM's CARD OF 'outworkerlaw12.LiveDead'. -/
def liveDeadUptoCard : Claim7 := { stood := { row := liveDeadUptoRow, standIns := [], harness := (true, "8ff38404af680b550b91fe5fd74526250c7ed431e07fb59fa8b09eeffdac340c"), looks := false }, kinds := [], alts := [], laidByText := true, laidKinds := [.data], laidTests := true, laidLooks := .later }
def LiveDeadUptoCardSaid : Prop := Claim7.holds Tryd.pinned (.plain (OpenSpec.upto liveDeadSpec)) liveDeadUptoCard

/-- THE SECOND FORM's CARD OF 'outworkerlaw12.LiveGiven'. -/
def liveGivenUptoCard : Claim7 := { stood := { row := liveGivenUptoRow, standIns := [], harness := (true, "8ff38404af680b550b91fe5fd74526250c7ed431e07fb59fa8b09eeffdac340c"), looks := false }, kinds := [], alts := [], laidByText := true, laidKinds := [.data], laidTests := true, laidLooks := .later }
def LiveGivenUptoCardSaid : Prop := Claim7.holds Tryd.pinned (.plain (OpenSpec.upto liveGivenSpec)) liveGivenUptoCard
end Rows
end Go.Proofs.YtbbicdfipheaeaaDoor
