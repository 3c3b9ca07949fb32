/-
  NARROWER THAN 'FOR EVERY INPUT', by the rows' own cells (each row's printed sentence says how): MarkerPrints: laid · MarkerParses: laid · MarkerLong: laid.
  DERIVED. THE GIVEN ROWS OF THIS SEAT. 3 by the template 'for every input the law returns true; each argument reads behind the call as it read before'; 0 by the template 'total and deterministic' (their statements: YtggeelejmhihdaaDoorTotals.lean).
  GIVEN WITH THE SEED: the statements are not yours to turn. If you find one false, say at which input.
  Laid BY PROGRAM, IN A SANDBOX (cutbox-rows.mjs): the forced cells as the released guide's own fill.sh prints them over the translation 9be95fca519dd6b9… (all of the seat's roots in one cut). By AI agents, Wed Nov 11 2026. No macro, syntax, notation, axiom, sorry.
-/
import Derived.Test.YtggeelejmhihdaaDoorChecked
import GoSem.Claim
import GoSem.ClaimJoined
import GoSem.ClaimMapViews
import Derived.JoinedTies
import Derived.KernelRfl
namespace Go.Proofs.YtggeelejmhihdaaDoor
/- THE CELL 'sum', in the pinned program and in every row, IS THE sha256 OF THE DUMP (.gsa) THAT YtggeelejmhihdaaDoorProg.lean LOADS. Nothing in Lean hashes anything: it is a label: what it is worth is what the hold of that sum in a sandbox is worth. -/
noncomputable def Tryd.pinned : Pinned := { name := "ytggeelejmhihdaadoor", sum := "9be95fca519dd6b93efb596b88180f9e74dbfacb6a6db6c408cb5e3b2ef1533c", checked := Tryd.checked }
namespace Rows
def none {H : Type} : Left H := { results := [], args := [] }

/- WHAT THE LISTED PACKAGE-LEVEL VARIABLES READ AS WHEN THE CALL BEGINS. Each datum BY PROGRAM (the guide's laid-datum.mjs) off the statement by which the dump's own 'gosem.cut.vars' lays the variable. In a bare row this is a premise. The card (YtggeelejmhihdaaDoorCards.lean) ties it to the program's text. -/
def laid_concordat_marker_signs {H : Type} : DataW H := .agg [.agg [.lit (.string [60]), .lit (.string [111, 117, 114, 115])], .agg [.lit (.string [124]), .lit (.string [98, 97, 115, 101])], .agg [.lit (.string [61]), .lit (.string [])], .agg [.lit (.string [62]), .lit (.string [116, 104, 101, 105, 114, 115])]]

/-- 'concordatlaw09.MarkerPrints': WHATEVER THE INPUT: true; the input reads as it did. -/
def markerPrintsSpec : ChangeSpec := { name := "markerPrints", fn := fun _ => fun
  | [d1, d2, d3] => { results := [.lit (.bool true)], args := [d1, d2, d3] }
  | _ => none }
def markerPrintsRow : OpenClaim := { program := "ytggeelejmhihdaadoor", sum := "9be95fca519dd6b93efb596b88180f9e74dbfacb6a6db6c408cb5e3b2ef1533c", func := "concordat/concordatlaw09.MarkerPrints", spec := "markerPrints", inPlace := ["internal/abi.NoEscape", "internal/bytealg.MakeNoZero", "internal/bytealg.IndexByteString"], unfollowed := true, recurses := true, named := ["concordat/marker.signs"], apart := false, laid := [("concordat/marker.signs", laid_concordat_marker_signs)] }
def MarkerPrintsSaid : Prop := markerPrintsRow.holds Tryd.pinned (OpenSpec.ofChange markerPrintsSpec)

/-- ITS FALSE NEIGHBOUR: 'it returns false'. Refute it at one input. -/
def markerPrintsWrong : ChangeSpec := { name := "markerPrints", fn := fun _ => fun
  | [d1, d2, d3] => { results := [.lit (.bool false)], args := [d1, d2, d3] }
  | _ => none }
def MarkerPrintsWrongFalsely : Prop := markerPrintsRow.holds Tryd.pinned (OpenSpec.ofChange markerPrintsWrong)

/-- 'concordatlaw09.MarkerParses': WHATEVER THE INPUT: true; the input reads as it did. -/
def markerParsesSpec : ChangeSpec := { name := "markerParses", fn := fun _ => fun
  | [d1, d2] => { results := [.lit (.bool true)], args := [d1, d2] }
  | _ => none }
def markerParsesRow : OpenClaim := { program := "ytggeelejmhihdaadoor", sum := "9be95fca519dd6b93efb596b88180f9e74dbfacb6a6db6c408cb5e3b2ef1533c", func := "concordat/concordatlaw09.MarkerParses", spec := "markerParses", inPlace := ["internal/abi.NoEscape", "internal/bytealg.MakeNoZero", "internal/bytealg.IndexByteString"], unfollowed := true, recurses := true, named := ["concordat/marker.signs"], apart := false, laid := [("concordat/marker.signs", laid_concordat_marker_signs)] }
def MarkerParsesSaid : Prop := markerParsesRow.holds Tryd.pinned (OpenSpec.ofChange markerParsesSpec)

/-- ITS FALSE NEIGHBOUR: 'it returns false'. Refute it at one input. -/
def markerParsesWrong : ChangeSpec := { name := "markerParses", fn := fun _ => fun
  | [d1, d2] => { results := [.lit (.bool false)], args := [d1, d2] }
  | _ => none }
def MarkerParsesWrongFalsely : Prop := markerParsesRow.holds Tryd.pinned (OpenSpec.ofChange markerParsesWrong)

/-- 'concordatlaw09.MarkerLong': WHATEVER THE INPUT: true; the input reads as it did. -/
def markerLongSpec : ChangeSpec := { name := "markerLong", fn := fun _ => fun
  | [d1, d2] => { results := [.lit (.bool true)], args := [d1, d2] }
  | _ => none }
def markerLongRow : OpenClaim := { program := "ytggeelejmhihdaadoor", sum := "9be95fca519dd6b93efb596b88180f9e74dbfacb6a6db6c408cb5e3b2ef1533c", func := "concordat/concordatlaw09.MarkerLong", spec := "markerLong", inPlace := ["internal/abi.NoEscape", "internal/bytealg.MakeNoZero", "internal/bytealg.IndexByteString"], unfollowed := true, recurses := true, named := ["concordat/marker.signs"], apart := false, laid := [("concordat/marker.signs", laid_concordat_marker_signs)] }
def MarkerLongSaid : Prop := markerLongRow.holds Tryd.pinned (OpenSpec.ofChange markerLongSpec)

/-- ITS FALSE NEIGHBOUR: 'it returns false'. Refute it at one input. -/
def markerLongWrong : ChangeSpec := { name := "markerLong", fn := fun _ => fun
  | [d1, d2] => { results := [.lit (.bool false)], args := [d1, d2] }
  | _ => none }
def MarkerLongWrongFalsely : Prop := markerLongRow.holds Tryd.pinned (OpenSpec.ofChange markerLongWrong)

/- THE SECOND FORM. 'bulk': how many values and letters a reading holds, each counted each time it is reached (what is shared counts as often as it is met; a slice's spare places count too). A statement '..UptoSaid' is the law's where the arguments, and the package variables that the reading takes, are together of bulk at most 1048576: NARROWER than '..Said'. Prove '..Said' where nothing that the law and all that it calls make is longer than what came in: it says more and counts as full. Else prove '..UptoSaid'. A law counts once. -/
mutual
def uptoBulk {H : Type} : DataW H → Nat
  | .lit (.string bytes) => bytes.length + 1
  | .lit _ => 1
  | .nil => 1
  | .ptr d => uptoBulk d + 1
  | .slice elems spare => uptoBulkAll elems + uptoBulkAll spare + 1
  | .agg parts => uptoBulkAll parts + 1
  | .iface _ d => uptoBulk d + 1
  | .map entries => uptoBulkEntries entries + 1
  | .held _ => 1
def uptoBulkAll {H : Type} : List (DataW H) → Nat
  | [] => 0
  | d :: r => uptoBulk d + uptoBulkAll r
def uptoBulkEntries {H : Type} : List (Lit × DataW H) → Nat
  | [] => 0
  | x :: r => uptoBulkEntry x + uptoBulkEntries r
def uptoBulkEntry {H : Type} : Lit × DataW H → Nat
  | (.string bytes, d) => bytes.length + uptoBulk d + 1
  | (_, d) => uptoBulk d + 1
 end
def uptoSmall : (H : Type) → List (DataW H) → Bool := fun _ ds => decide (uptoBulkAll ds ≤ 1048576)
def OpenSpec.upto (s : _root_.Go.ChangeSpec) : _root_.Go.OpenSpec := { _root_.Go.OpenSpec.ofChange s with cond := some uptoSmall }

/-- 'concordatlaw09.MarkerPrints', WHERE WHAT IT READS IS OF BULK AT MOST 1048576: true; the input reads as it did. -/
def markerPrintsUptoRow : OpenClaim := { program := "ytggeelejmhihdaadoor", sum := "9be95fca519dd6b93efb596b88180f9e74dbfacb6a6db6c408cb5e3b2ef1533c", func := "concordat/concordatlaw09.MarkerPrints", spec := "markerPrints", inPlace := ["internal/abi.NoEscape", "internal/bytealg.MakeNoZero", "internal/bytealg.IndexByteString"], unfollowed := true, recurses := true, named := ["concordat/marker.signs"], apart := false, laid := [("concordat/marker.signs", laid_concordat_marker_signs)], narrowed := true }
def MarkerPrintsUptoSaid : Prop := markerPrintsUptoRow.holds Tryd.pinned (OpenSpec.upto markerPrintsSpec)

/-- 'concordatlaw09.MarkerParses', WHERE WHAT IT READS IS OF BULK AT MOST 1048576: true; the input reads as it did. -/
def markerParsesUptoRow : OpenClaim := { program := "ytggeelejmhihdaadoor", sum := "9be95fca519dd6b93efb596b88180f9e74dbfacb6a6db6c408cb5e3b2ef1533c", func := "concordat/concordatlaw09.MarkerParses", spec := "markerParses", inPlace := ["internal/abi.NoEscape", "internal/bytealg.MakeNoZero", "internal/bytealg.IndexByteString"], unfollowed := true, recurses := true, named := ["concordat/marker.signs"], apart := false, laid := [("concordat/marker.signs", laid_concordat_marker_signs)], narrowed := true }
def MarkerParsesUptoSaid : Prop := markerParsesUptoRow.holds Tryd.pinned (OpenSpec.upto markerParsesSpec)

/-- 'concordatlaw09.MarkerLong', WHERE WHAT IT READS IS OF BULK AT MOST 1048576: true; the input reads as it did. -/
def markerLongUptoRow : OpenClaim := { program := "ytggeelejmhihdaadoor", sum := "9be95fca519dd6b93efb596b88180f9e74dbfacb6a6db6c408cb5e3b2ef1533c", func := "concordat/concordatlaw09.MarkerLong", spec := "markerLong", inPlace := ["internal/abi.NoEscape", "internal/bytealg.MakeNoZero", "internal/bytealg.IndexByteString"], unfollowed := true, recurses := true, named := ["concordat/marker.signs"], apart := false, laid := [("concordat/marker.signs", laid_concordat_marker_signs)], narrowed := true }
def MarkerLongUptoSaid : Prop := markerLongUptoRow.holds Tryd.pinned (OpenSpec.upto markerLongSpec)

end Rows
end Go.Proofs.YtggeelejmhihdaaDoor
