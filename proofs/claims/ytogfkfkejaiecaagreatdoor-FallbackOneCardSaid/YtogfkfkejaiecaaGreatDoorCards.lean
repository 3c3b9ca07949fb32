/-
  DERIVED. GIVEN WITH THE SEED: THE CARDS: each row of YtogfkfkejaiecaaGreatDoorRows.lean that lists a variable, with what it lists TIED to the program's text (the seventh form; the later family's looks); each row that meets fmt, with fmt's text TOLD by the authors' own Lean function (tested against real Go, not proved from fmt's source: count such statements apart). THE CARD IS WHAT COUNTS. Prove the row's statement (the work); the ties are given (YtogfkfkejaiecaaGreatDoorTie.lean); close each card by the builder's one call (the guide's Derived/Test/ToyasCard.lean, 'card_holds'). Laid BY PROGRAM, IN A SANDBOX (cutbox-door.mjs). By AI agents, Wed Nov 11 2026. No macro, syntax, notation, axiom, sorry.
-/
import Derived.Test.YtogfkfkejaiecaaGreatDoorRows
import GoSem.ClaimSeven
namespace Go.Proofs.YtogfkfkejaiecaaGreatDoor
namespace Rows

/-- THE TIED CARD OF 'concordatlaw32.FallbackFiles'. -/
def fallbackFilesCard : Claim7 := { stood := { row := fallbackFilesRow, standIns := [], harness := (true, "bc5f8d9db6ee01d672e39d84d273aaec18a510f343ce8f3c2cd10365835c3b33"), looks := false }, kinds := [], alts := [], laidByText := true, laidKinds := [.wider], laidTests := true, laidLooks := .later }
def FallbackFilesCardSaid : Prop := Claim7.holds Tryz.pinned (.plain (OpenSpec.ofChange fallbackFilesSpec)) fallbackFilesCard

/-- THE TIED CARD OF 'concordatlaw32.FallbackTrees'. -/
def fallbackTreesCard : Claim7 := { stood := { row := fallbackTreesRow, standIns := [], harness := (true, "bc5f8d9db6ee01d672e39d84d273aaec18a510f343ce8f3c2cd10365835c3b33"), looks := false }, kinds := [], alts := [], laidByText := true, laidKinds := [.wider], laidTests := true, laidLooks := .later }
def FallbackTreesCardSaid : Prop := Claim7.holds Tryz.pinned (.plain (OpenSpec.ofChange fallbackTreesSpec)) fallbackTreesCard

/-- THE TIED CARD OF 'concordatlaw32.FallbackSides'. -/
def fallbackSidesCard : Claim7 := { stood := { row := fallbackSidesRow, standIns := [], harness := (true, "bc5f8d9db6ee01d672e39d84d273aaec18a510f343ce8f3c2cd10365835c3b33"), looks := false }, kinds := [], alts := [], laidByText := true, laidKinds := [.wider], laidTests := true, laidLooks := .later }
def FallbackSidesCardSaid : Prop := Claim7.holds Tryz.pinned (.plain (OpenSpec.ofChange fallbackSidesSpec)) fallbackSidesCard

/-- THE TIED CARD OF 'concordatlaw32.FallbackOne'. -/
def fallbackOneCard : Claim7 := { stood := { row := fallbackOneRow, standIns := [], harness := (true, "bc5f8d9db6ee01d672e39d84d273aaec18a510f343ce8f3c2cd10365835c3b33"), looks := false }, kinds := [], alts := [], laidByText := true, laidKinds := [.wider], laidTests := true, laidLooks := .later }
def FallbackOneCardSaid : Prop := Claim7.holds Tryz.pinned (.plain (OpenSpec.ofChange fallbackOneSpec)) fallbackOneCard

/-- THE SECOND FORM's CARD OF 'concordatlaw32.FallbackFiles'. -/
def fallbackFilesUptoCard : Claim7 := { stood := { row := fallbackFilesUptoRow, standIns := [], harness := (true, "bc5f8d9db6ee01d672e39d84d273aaec18a510f343ce8f3c2cd10365835c3b33"), looks := false }, kinds := [], alts := [], laidByText := true, laidKinds := [.wider], laidTests := true, laidLooks := .later }
def FallbackFilesUptoCardSaid : Prop := Claim7.holds Tryz.pinned (.plain (OpenSpec.upto fallbackFilesSpec)) fallbackFilesUptoCard

/-- THE SECOND FORM's CARD OF 'concordatlaw32.FallbackTrees'. -/
def fallbackTreesUptoCard : Claim7 := { stood := { row := fallbackTreesUptoRow, standIns := [], harness := (true, "bc5f8d9db6ee01d672e39d84d273aaec18a510f343ce8f3c2cd10365835c3b33"), looks := false }, kinds := [], alts := [], laidByText := true, laidKinds := [.wider], laidTests := true, laidLooks := .later }
def FallbackTreesUptoCardSaid : Prop := Claim7.holds Tryz.pinned (.plain (OpenSpec.upto fallbackTreesSpec)) fallbackTreesUptoCard

/-- THE SECOND FORM's CARD OF 'concordatlaw32.FallbackSides'. -/
def fallbackSidesUptoCard : Claim7 := { stood := { row := fallbackSidesUptoRow, standIns := [], harness := (true, "bc5f8d9db6ee01d672e39d84d273aaec18a510f343ce8f3c2cd10365835c3b33"), looks := false }, kinds := [], alts := [], laidByText := true, laidKinds := [.wider], laidTests := true, laidLooks := .later }
def FallbackSidesUptoCardSaid : Prop := Claim7.holds Tryz.pinned (.plain (OpenSpec.upto fallbackSidesSpec)) fallbackSidesUptoCard

/-- THE SECOND FORM's CARD OF 'concordatlaw32.FallbackOne'. -/
def fallbackOneUptoCard : Claim7 := { stood := { row := fallbackOneUptoRow, standIns := [], harness := (true, "bc5f8d9db6ee01d672e39d84d273aaec18a510f343ce8f3c2cd10365835c3b33"), looks := false }, kinds := [], alts := [], laidByText := true, laidKinds := [.wider], laidTests := true, laidLooks := .later }
def FallbackOneUptoCardSaid : Prop := Claim7.holds Tryz.pinned (.plain (OpenSpec.upto fallbackOneSpec)) fallbackOneUptoCard
end Rows
end Go.Proofs.YtogfkfkejaiecaaGreatDoor
