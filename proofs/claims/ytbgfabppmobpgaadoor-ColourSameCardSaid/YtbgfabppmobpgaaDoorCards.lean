/-
  DERIVED. GIVEN WITH THE SEED: THE CARDS: each row of YtbgfabppmobpgaaDoorRows.lean that lists a variable, with what it lists TIED to the program's text (the seventh form; the later family's looks); each row that meets fmt, with fmt's text TOLD by the authors' own Lean function (tested against real Go, not proved from fmt's source: count such statements apart). THE CARD IS WHAT COUNTS. Prove the row's statement (the work); the ties are given (YtbgfabppmobpgaaDoorTie.lean); close each card by the builder's one call (the guide's Derived/Test/ToyasCard.lean, 'card_holds'). Laid BY PROGRAM, IN A SANDBOX (cutbox-door.mjs). By AI agents, Wed Nov 11 2026. No macro, syntax, notation, axiom, sorry.
-/
import Derived.Test.YtbgfabppmobpgaaDoorRows
import GoSem.ClaimSeven
namespace Go.Proofs.YtbgfabppmobpgaaDoor
namespace Rows

/-- THE TIED CARD OF 'outworkerlaw17.SearchBest'. -/
def searchBestCard : Claim7 := { stood := { row := searchBestRow, standIns := [], harness := (true, "74a93455e167e44cac747f8244595d2a0244a2ab46c0a069dc415a11e19b33d5"), looks := false }, kinds := [], alts := [], laidByText := true, laidKinds := [.data], laidTests := true, laidLooks := .later }
def SearchBestCardSaid : Prop := Claim7.holds Tryd.pinned (.plain (OpenSpec.ofChange searchBestSpec)) searchBestCard

/-- THE TIED CARD OF 'outworkerlaw17.SearchRefuses'. -/
def searchRefusesCard : Claim7 := { stood := { row := searchRefusesRow, standIns := [], harness := (true, "74a93455e167e44cac747f8244595d2a0244a2ab46c0a069dc415a11e19b33d5"), looks := false }, kinds := [], alts := [], laidByText := true, laidKinds := [.data], laidTests := true, laidLooks := .later }
def SearchRefusesCardSaid : Prop := Claim7.holds Tryd.pinned (.plain (OpenSpec.ofChange searchRefusesSpec)) searchRefusesCard

/-- THE TIED CARD OF 'outworkerlaw17.SearchMore'. -/
def searchMoreCard : Claim7 := { stood := { row := searchMoreRow, standIns := [], harness := (true, "74a93455e167e44cac747f8244595d2a0244a2ab46c0a069dc415a11e19b33d5"), looks := false }, kinds := [], alts := [], laidByText := true, laidKinds := [.data], laidTests := true, laidLooks := .later }
def SearchMoreCardSaid : Prop := Claim7.holds Tryd.pinned (.plain (OpenSpec.ofChange searchMoreSpec)) searchMoreCard

/-- THE TIED CARD OF 'outworkerlaw17.SearchApart'. -/
def searchApartCard : Claim7 := { stood := { row := searchApartRow, standIns := [], harness := (true, "74a93455e167e44cac747f8244595d2a0244a2ab46c0a069dc415a11e19b33d5"), looks := false }, kinds := [], alts := [], laidByText := true, laidKinds := [.data], laidTests := true, laidLooks := .later }
def SearchApartCardSaid : Prop := Claim7.holds Tryd.pinned (.plain (OpenSpec.ofChange searchApartSpec)) searchApartCard

/-- THE TIED CARD OF 'outworkerlaw16.ColourFits'. -/
def colourFitsCard : Claim7 := { stood := { row := colourFitsRow, standIns := [], harness := (true, "74a93455e167e44cac747f8244595d2a0244a2ab46c0a069dc415a11e19b33d5"), looks := false }, kinds := [], alts := [], laidByText := true, laidKinds := [.data], laidTests := true, laidLooks := .later }
def ColourFitsCardSaid : Prop := Claim7.holds Tryd.pinned (.plain (OpenSpec.ofChange colourFitsSpec)) colourFitsCard

/-- THE TIED CARD OF 'outworkerlaw16.ColourRefuses'. -/
def colourRefusesCard : Claim7 := { stood := { row := colourRefusesRow, standIns := [], harness := (true, "74a93455e167e44cac747f8244595d2a0244a2ab46c0a069dc415a11e19b33d5"), looks := false }, kinds := [], alts := [], laidByText := true, laidKinds := [.data], laidTests := true, laidLooks := .later }
def ColourRefusesCardSaid : Prop := Claim7.holds Tryd.pinned (.plain (OpenSpec.ofChange colourRefusesSpec)) colourRefusesCard

/-- THE TIED CARD OF 'outworkerlaw16.ColourTrees'. -/
def colourTreesCard : Claim7 := { stood := { row := colourTreesRow, standIns := [], harness := (true, "74a93455e167e44cac747f8244595d2a0244a2ab46c0a069dc415a11e19b33d5"), looks := false }, kinds := [], alts := [], laidByText := true, laidKinds := [.data], laidTests := true, laidLooks := .later }
def ColourTreesCardSaid : Prop := Claim7.holds Tryd.pinned (.plain (OpenSpec.ofChange colourTreesSpec)) colourTreesCard

/-- THE TIED CARD OF 'outworkerlaw16.ColourSame'. -/
def colourSameCard : Claim7 := { stood := { row := colourSameRow, standIns := [], harness := (true, "74a93455e167e44cac747f8244595d2a0244a2ab46c0a069dc415a11e19b33d5"), looks := false }, kinds := [], alts := [], laidByText := true, laidKinds := [.data], laidTests := true, laidLooks := .later }
def ColourSameCardSaid : Prop := Claim7.holds Tryd.pinned (.plain (OpenSpec.ofChange colourSameSpec)) colourSameCard

/-- THE SECOND FORM's CARD OF 'outworkerlaw17.SearchBest'. -/
def searchBestUptoCard : Claim7 := { stood := { row := searchBestUptoRow, standIns := [], harness := (true, "74a93455e167e44cac747f8244595d2a0244a2ab46c0a069dc415a11e19b33d5"), looks := false }, kinds := [], alts := [], laidByText := true, laidKinds := [.data], laidTests := true, laidLooks := .later }
def SearchBestUptoCardSaid : Prop := Claim7.holds Tryd.pinned (.plain (OpenSpec.upto searchBestSpec)) searchBestUptoCard

/-- THE SECOND FORM's CARD OF 'outworkerlaw17.SearchRefuses'. -/
def searchRefusesUptoCard : Claim7 := { stood := { row := searchRefusesUptoRow, standIns := [], harness := (true, "74a93455e167e44cac747f8244595d2a0244a2ab46c0a069dc415a11e19b33d5"), looks := false }, kinds := [], alts := [], laidByText := true, laidKinds := [.data], laidTests := true, laidLooks := .later }
def SearchRefusesUptoCardSaid : Prop := Claim7.holds Tryd.pinned (.plain (OpenSpec.upto searchRefusesSpec)) searchRefusesUptoCard

/-- THE SECOND FORM's CARD OF 'outworkerlaw17.SearchMore'. -/
def searchMoreUptoCard : Claim7 := { stood := { row := searchMoreUptoRow, standIns := [], harness := (true, "74a93455e167e44cac747f8244595d2a0244a2ab46c0a069dc415a11e19b33d5"), looks := false }, kinds := [], alts := [], laidByText := true, laidKinds := [.data], laidTests := true, laidLooks := .later }
def SearchMoreUptoCardSaid : Prop := Claim7.holds Tryd.pinned (.plain (OpenSpec.upto searchMoreSpec)) searchMoreUptoCard

/-- THE SECOND FORM's CARD OF 'outworkerlaw17.SearchApart'. -/
def searchApartUptoCard : Claim7 := { stood := { row := searchApartUptoRow, standIns := [], harness := (true, "74a93455e167e44cac747f8244595d2a0244a2ab46c0a069dc415a11e19b33d5"), looks := false }, kinds := [], alts := [], laidByText := true, laidKinds := [.data], laidTests := true, laidLooks := .later }
def SearchApartUptoCardSaid : Prop := Claim7.holds Tryd.pinned (.plain (OpenSpec.upto searchApartSpec)) searchApartUptoCard

/-- THE SECOND FORM's CARD OF 'outworkerlaw16.ColourFits'. -/
def colourFitsUptoCard : Claim7 := { stood := { row := colourFitsUptoRow, standIns := [], harness := (true, "74a93455e167e44cac747f8244595d2a0244a2ab46c0a069dc415a11e19b33d5"), looks := false }, kinds := [], alts := [], laidByText := true, laidKinds := [.data], laidTests := true, laidLooks := .later }
def ColourFitsUptoCardSaid : Prop := Claim7.holds Tryd.pinned (.plain (OpenSpec.upto colourFitsSpec)) colourFitsUptoCard

/-- THE SECOND FORM's CARD OF 'outworkerlaw16.ColourRefuses'. -/
def colourRefusesUptoCard : Claim7 := { stood := { row := colourRefusesUptoRow, standIns := [], harness := (true, "74a93455e167e44cac747f8244595d2a0244a2ab46c0a069dc415a11e19b33d5"), looks := false }, kinds := [], alts := [], laidByText := true, laidKinds := [.data], laidTests := true, laidLooks := .later }
def ColourRefusesUptoCardSaid : Prop := Claim7.holds Tryd.pinned (.plain (OpenSpec.upto colourRefusesSpec)) colourRefusesUptoCard

/-- THE SECOND FORM's CARD OF 'outworkerlaw16.ColourTrees'. -/
def colourTreesUptoCard : Claim7 := { stood := { row := colourTreesUptoRow, standIns := [], harness := (true, "74a93455e167e44cac747f8244595d2a0244a2ab46c0a069dc415a11e19b33d5"), looks := false }, kinds := [], alts := [], laidByText := true, laidKinds := [.data], laidTests := true, laidLooks := .later }
def ColourTreesUptoCardSaid : Prop := Claim7.holds Tryd.pinned (.plain (OpenSpec.upto colourTreesSpec)) colourTreesUptoCard

/-- THE SECOND FORM's CARD OF 'outworkerlaw16.ColourSame'. -/
def colourSameUptoCard : Claim7 := { stood := { row := colourSameUptoRow, standIns := [], harness := (true, "74a93455e167e44cac747f8244595d2a0244a2ab46c0a069dc415a11e19b33d5"), looks := false }, kinds := [], alts := [], laidByText := true, laidKinds := [.data], laidTests := true, laidLooks := .later }
def ColourSameUptoCardSaid : Prop := Claim7.holds Tryd.pinned (.plain (OpenSpec.upto colourSameSpec)) colourSameUptoCard
end Rows
end Go.Proofs.YtbgfabppmobpgaaDoor
