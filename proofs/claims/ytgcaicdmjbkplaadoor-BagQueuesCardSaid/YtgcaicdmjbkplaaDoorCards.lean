/-
  DERIVED. GIVEN WITH THE SEED: THE CARDS: each row of YtgcaicdmjbkplaaDoorRows.lean that lists a variable, with what it lists TIED to the program's text (the seventh form; the later family's looks); each row that meets fmt, with fmt's text TOLD by the authors' own Lean function (tested against real Go, not proved from fmt's source: count such statements apart). THE CARD IS WHAT COUNTS. Prove the row's statement (the work); the ties are given (YtgcaicdmjbkplaaDoorTie.lean); close each card by the builder's one call (the guide's Derived/Test/ToyasCard.lean, 'card_holds'). Laid BY PROGRAM, IN A SANDBOX (cutbox-door.mjs). By AI agents, Wed Nov 11 2026. No macro, syntax, notation, axiom, sorry.
-/
import Derived.Test.YtgcaicdmjbkplaaDoorRows
import GoSem.ClaimSeven
namespace Go.Proofs.YtgcaicdmjbkplaaDoor
namespace Rows

/-- THE TIED CARD OF 'outworkerlaw10.PathsTurned'. -/
def pathsTurnedCard : Claim7 := { stood := { row := pathsTurnedRow, standIns := [], harness := (true, "b78b0383410a61afe81fbf0c92c434ccf5e3cb3e73f63a0d871732257097e45a"), looks := false }, kinds := [], alts := [], laidByText := true, laidKinds := [.data], laidTests := true, laidLooks := .later }
def PathsTurnedCardSaid : Prop := Claim7.holds Tryd.pinned (.plain (OpenSpec.ofChange pathsTurnedSpec)) pathsTurnedCard

/-- THE TIED CARD OF 'outworkerlaw09.BagTypes'. -/
def bagTypesCard : Claim7 := { stood := { row := bagTypesRow, standIns := [], harness := (true, "b78b0383410a61afe81fbf0c92c434ccf5e3cb3e73f63a0d871732257097e45a"), looks := false }, kinds := [], alts := [], laidByText := true, laidKinds := [.data], laidTests := true, laidLooks := .later }
def BagTypesCardSaid : Prop := Claim7.holds Tryd.pinned (.plain (OpenSpec.ofChange bagTypesSpec)) bagTypesCard

/-- THE TIED CARD OF 'outworkerlaw09.BagQueues'. -/
def bagQueuesCard : Claim7 := { stood := { row := bagQueuesRow, standIns := [], harness := (true, "b78b0383410a61afe81fbf0c92c434ccf5e3cb3e73f63a0d871732257097e45a"), looks := false }, kinds := [], alts := [], laidByText := true, laidKinds := [.data], laidTests := true, laidLooks := .later }
def BagQueuesCardSaid : Prop := Claim7.holds Tryd.pinned (.plain (OpenSpec.ofChange bagQueuesSpec)) bagQueuesCard

/-- THE TIED CARD OF 'outworkerlaw09.BagTables'. -/
def bagTablesCard : Claim7 := { stood := { row := bagTablesRow, standIns := [], harness := (true, "b78b0383410a61afe81fbf0c92c434ccf5e3cb3e73f63a0d871732257097e45a"), looks := false }, kinds := [], alts := [], laidByText := true, laidKinds := [.data], laidTests := true, laidLooks := .later }
def BagTablesCardSaid : Prop := Claim7.holds Tryd.pinned (.plain (OpenSpec.ofChange bagTablesSpec)) bagTablesCard

/-- THE TIED CARD OF 'outworkerlaw09.BagMany'. -/
def bagManyCard : Claim7 := { stood := { row := bagManyRow, standIns := [], harness := (true, "b78b0383410a61afe81fbf0c92c434ccf5e3cb3e73f63a0d871732257097e45a"), looks := false }, kinds := [], alts := [], laidByText := true, laidKinds := [.data], laidTests := true, laidLooks := .later }
def BagManyCardSaid : Prop := Claim7.holds Tryd.pinned (.plain (OpenSpec.ofChange bagManySpec)) bagManyCard

/-- THE TIED CARD OF 'outworkerlaw09.BagLaws'. -/
def bagLawsCard : Claim7 := { stood := { row := bagLawsRow, standIns := [], harness := (true, "b78b0383410a61afe81fbf0c92c434ccf5e3cb3e73f63a0d871732257097e45a"), looks := false }, kinds := [], alts := [], laidByText := true, laidKinds := [.data], laidTests := true, laidLooks := .later }
def BagLawsCardSaid : Prop := Claim7.holds Tryd.pinned (.plain (OpenSpec.ofChange bagLawsSpec)) bagLawsCard

/-- THE TIED CARD OF 'outworkerlaw09.BagSets'. -/
def bagSetsCard : Claim7 := { stood := { row := bagSetsRow, standIns := [], harness := (true, "b78b0383410a61afe81fbf0c92c434ccf5e3cb3e73f63a0d871732257097e45a"), looks := false }, kinds := [], alts := [], laidByText := true, laidKinds := [.data], laidTests := true, laidLooks := .later }
def BagSetsCardSaid : Prop := Claim7.holds Tryd.pinned (.plain (OpenSpec.ofChange bagSetsSpec)) bagSetsCard

/-- THE SECOND FORM's CARD OF 'outworkerlaw10.PathsTurned'. -/
def pathsTurnedUptoCard : Claim7 := { stood := { row := pathsTurnedUptoRow, standIns := [], harness := (true, "b78b0383410a61afe81fbf0c92c434ccf5e3cb3e73f63a0d871732257097e45a"), looks := false }, kinds := [], alts := [], laidByText := true, laidKinds := [.data], laidTests := true, laidLooks := .later }
def PathsTurnedUptoCardSaid : Prop := Claim7.holds Tryd.pinned (.plain (OpenSpec.upto pathsTurnedSpec)) pathsTurnedUptoCard

/-- THE SECOND FORM's CARD OF 'outworkerlaw09.BagTypes'. -/
def bagTypesUptoCard : Claim7 := { stood := { row := bagTypesUptoRow, standIns := [], harness := (true, "b78b0383410a61afe81fbf0c92c434ccf5e3cb3e73f63a0d871732257097e45a"), looks := false }, kinds := [], alts := [], laidByText := true, laidKinds := [.data], laidTests := true, laidLooks := .later }
def BagTypesUptoCardSaid : Prop := Claim7.holds Tryd.pinned (.plain (OpenSpec.upto bagTypesSpec)) bagTypesUptoCard

/-- THE SECOND FORM's CARD OF 'outworkerlaw09.BagQueues'. -/
def bagQueuesUptoCard : Claim7 := { stood := { row := bagQueuesUptoRow, standIns := [], harness := (true, "b78b0383410a61afe81fbf0c92c434ccf5e3cb3e73f63a0d871732257097e45a"), looks := false }, kinds := [], alts := [], laidByText := true, laidKinds := [.data], laidTests := true, laidLooks := .later }
def BagQueuesUptoCardSaid : Prop := Claim7.holds Tryd.pinned (.plain (OpenSpec.upto bagQueuesSpec)) bagQueuesUptoCard

/-- THE SECOND FORM's CARD OF 'outworkerlaw09.BagTables'. -/
def bagTablesUptoCard : Claim7 := { stood := { row := bagTablesUptoRow, standIns := [], harness := (true, "b78b0383410a61afe81fbf0c92c434ccf5e3cb3e73f63a0d871732257097e45a"), looks := false }, kinds := [], alts := [], laidByText := true, laidKinds := [.data], laidTests := true, laidLooks := .later }
def BagTablesUptoCardSaid : Prop := Claim7.holds Tryd.pinned (.plain (OpenSpec.upto bagTablesSpec)) bagTablesUptoCard

/-- THE SECOND FORM's CARD OF 'outworkerlaw09.BagMany'. -/
def bagManyUptoCard : Claim7 := { stood := { row := bagManyUptoRow, standIns := [], harness := (true, "b78b0383410a61afe81fbf0c92c434ccf5e3cb3e73f63a0d871732257097e45a"), looks := false }, kinds := [], alts := [], laidByText := true, laidKinds := [.data], laidTests := true, laidLooks := .later }
def BagManyUptoCardSaid : Prop := Claim7.holds Tryd.pinned (.plain (OpenSpec.upto bagManySpec)) bagManyUptoCard

/-- THE SECOND FORM's CARD OF 'outworkerlaw09.BagLaws'. -/
def bagLawsUptoCard : Claim7 := { stood := { row := bagLawsUptoRow, standIns := [], harness := (true, "b78b0383410a61afe81fbf0c92c434ccf5e3cb3e73f63a0d871732257097e45a"), looks := false }, kinds := [], alts := [], laidByText := true, laidKinds := [.data], laidTests := true, laidLooks := .later }
def BagLawsUptoCardSaid : Prop := Claim7.holds Tryd.pinned (.plain (OpenSpec.upto bagLawsSpec)) bagLawsUptoCard

/-- THE SECOND FORM's CARD OF 'outworkerlaw09.BagSets'. -/
def bagSetsUptoCard : Claim7 := { stood := { row := bagSetsUptoRow, standIns := [], harness := (true, "b78b0383410a61afe81fbf0c92c434ccf5e3cb3e73f63a0d871732257097e45a"), looks := false }, kinds := [], alts := [], laidByText := true, laidKinds := [.data], laidTests := true, laidLooks := .later }
def BagSetsUptoCardSaid : Prop := Claim7.holds Tryd.pinned (.plain (OpenSpec.upto bagSetsSpec)) bagSetsUptoCard
end Rows
end Go.Proofs.YtgcaicdmjbkplaaDoor
