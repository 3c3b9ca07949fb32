/-
  DERIVED. GIVEN WITH THE SEED: THE CARDS: each row of YtggeelejmhihdaaDoorRows.lean that lists a variable, with what it lists TIED to the program's text (the seventh form; the later family's looks); each row that meets fmt, with fmt's text TOLD by the authors' own Lean function (tested against real Go, not proved from fmt's source: count such statements apart). THE CARD IS WHAT COUNTS. Prove the row's statement (the work); the ties are given (YtggeelejmhihdaaDoorTie.lean); close each card by the builder's one call (the guide's Derived/Test/ToyasCard.lean, 'card_holds'). Laid BY PROGRAM, IN A SANDBOX (cutbox-door.mjs). By AI agents, Wed Nov 11 2026. No macro, syntax, notation, axiom, sorry.
-/
import Derived.Test.YtggeelejmhihdaaDoorRows
import GoSem.ClaimSeven
namespace Go.Proofs.YtggeelejmhihdaaDoor
namespace Rows

/-- THE TIED CARD OF 'concordatlaw09.MarkerPrints'. -/
def markerPrintsCard : Claim7 := { stood := { row := markerPrintsRow, standIns := [], harness := (true, "7b40405d5ff21aa857b0d5699ab860ea3cc8739a18087d8155ec4b406b4856ad"), looks := false }, kinds := [], alts := [], laidByText := true, laidKinds := [.wider], laidTests := true, laidLooks := .later }
def MarkerPrintsCardSaid : Prop := Claim7.holds Tryd.pinned (.plain (OpenSpec.ofChange markerPrintsSpec)) markerPrintsCard

/-- THE TIED CARD OF 'concordatlaw09.MarkerParses'. -/
def markerParsesCard : Claim7 := { stood := { row := markerParsesRow, standIns := [], harness := (true, "7b40405d5ff21aa857b0d5699ab860ea3cc8739a18087d8155ec4b406b4856ad"), looks := false }, kinds := [], alts := [], laidByText := true, laidKinds := [.wider], laidTests := true, laidLooks := .later }
def MarkerParsesCardSaid : Prop := Claim7.holds Tryd.pinned (.plain (OpenSpec.ofChange markerParsesSpec)) markerParsesCard

/-- THE TIED CARD OF 'concordatlaw09.MarkerLong'. -/
def markerLongCard : Claim7 := { stood := { row := markerLongRow, standIns := [], harness := (true, "7b40405d5ff21aa857b0d5699ab860ea3cc8739a18087d8155ec4b406b4856ad"), looks := false }, kinds := [], alts := [], laidByText := true, laidKinds := [.wider], laidTests := true, laidLooks := .later }
def MarkerLongCardSaid : Prop := Claim7.holds Tryd.pinned (.plain (OpenSpec.ofChange markerLongSpec)) markerLongCard

/-- THE SECOND FORM's CARD OF 'concordatlaw09.MarkerPrints'. -/
def markerPrintsUptoCard : Claim7 := { stood := { row := markerPrintsUptoRow, standIns := [], harness := (true, "7b40405d5ff21aa857b0d5699ab860ea3cc8739a18087d8155ec4b406b4856ad"), looks := false }, kinds := [], alts := [], laidByText := true, laidKinds := [.wider], laidTests := true, laidLooks := .later }
def MarkerPrintsUptoCardSaid : Prop := Claim7.holds Tryd.pinned (.plain (OpenSpec.upto markerPrintsSpec)) markerPrintsUptoCard

/-- THE SECOND FORM's CARD OF 'concordatlaw09.MarkerParses'. -/
def markerParsesUptoCard : Claim7 := { stood := { row := markerParsesUptoRow, standIns := [], harness := (true, "7b40405d5ff21aa857b0d5699ab860ea3cc8739a18087d8155ec4b406b4856ad"), looks := false }, kinds := [], alts := [], laidByText := true, laidKinds := [.wider], laidTests := true, laidLooks := .later }
def MarkerParsesUptoCardSaid : Prop := Claim7.holds Tryd.pinned (.plain (OpenSpec.upto markerParsesSpec)) markerParsesUptoCard

/-- THE SECOND FORM's CARD OF 'concordatlaw09.MarkerLong'. -/
def markerLongUptoCard : Claim7 := { stood := { row := markerLongUptoRow, standIns := [], harness := (true, "7b40405d5ff21aa857b0d5699ab860ea3cc8739a18087d8155ec4b406b4856ad"), looks := false }, kinds := [], alts := [], laidByText := true, laidKinds := [.wider], laidTests := true, laidLooks := .later }
def MarkerLongUptoCardSaid : Prop := Claim7.holds Tryd.pinned (.plain (OpenSpec.upto markerLongSpec)) markerLongUptoCard
end Rows
end Go.Proofs.YtggeelejmhihdaaDoor
