/-
  NARROWER THAN 'FOR EVERY INPUT', by the rows' own cells (each row's printed sentence says how): FallbackFiles: laid · FallbackTrees: laid · FallbackSides: laid · FallbackOne: laid.
  DERIVED. THE GIVEN ROWS OF THIS SEAT. 4 by the template 'for every input the law returns true; each argument reads behind the call as it read before'; 0 by the template 'total and deterministic' (their statements: YtogfkfkejaiecaaGreatDoorTotals.lean).
  GIVEN WITH THE SEED: the statements are not yours to turn. If you find one false, say at which input.
  Laid BY PROGRAM, IN A SANDBOX (cutbox-rows.mjs): the forced cells as the released guide's own fill.sh prints them over the translation 15dd3be1f34d0849… (all of the seat's roots in one cut). By AI agents, Wed Nov 11 2026. No macro, syntax, notation, axiom, sorry.
-/
import Derived.Test.YtogfkfkejaiecaaGreatDoorChecked
import GoSem.Claim
import GoSem.ClaimJoined
import GoSem.ClaimMapViews
import Derived.JoinedTies
import Derived.KernelRfl
namespace Go.Proofs.YtogfkfkejaiecaaGreatDoor
/- THE CELL 'sum', in the pinned program and in every row, IS THE sha256 OF THE DUMP (.gsa) THAT YtogfkfkejaiecaaGreatDoorProg.lean LOADS. Nothing in Lean hashes anything: it is a label: what it is worth is what the hold of that sum in a sandbox is worth. -/
noncomputable def Tryz.pinned : Pinned := { name := "ytogfkfkejaiecaagreatdoor", sum := "15dd3be1f34d0849da8c424725630f2f2bebce89353cc614ef452170cedb6343", checked := Tryz.checked }
namespace Rows
def none {H : Type} : Left H := { results := [], args := [] }

/- WHAT THE LISTED PACKAGE-LEVEL VARIABLES READ AS WHEN THE CALL BEGINS. Each datum BY PROGRAM (the guide's laid-datum.mjs) off the statement by which the dump's own 'gosem.cut.vars' lays the variable. In a bare row this is a premise. The card (YtogfkfkejaiecaaGreatDoorCards.lean) ties it to the program's text. -/
def laid_concordat_marker_signs {H : Type} : DataW H := .agg [.agg [.lit (.string [60]), .lit (.string [111, 117, 114, 115])], .agg [.lit (.string [124]), .lit (.string [98, 97, 115, 101])], .agg [.lit (.string [61]), .lit (.string [])], .agg [.lit (.string [62]), .lit (.string [116, 104, 101, 105, 114, 115])]]

/-- 'concordatlaw32.FallbackFiles': WHATEVER THE INPUT: true; the input reads as it did. -/
def fallbackFilesSpec : ChangeSpec := { name := "fallbackFiles", fn := fun _ => fun
  | [d1, d2, d3] => { results := [.lit (.bool true)], args := [d1, d2, d3] }
  | _ => none }
def fallbackFilesRow : OpenClaim := { program := "ytogfkfkejaiecaagreatdoor", sum := "15dd3be1f34d0849da8c424725630f2f2bebce89353cc614ef452170cedb6343", func := "concordat/concordatlaw32.FallbackFiles", spec := "fallbackFiles", inPlace := ["internal/bytealg.IndexByteString", "internal/abi.NoEscape", "internal/bytealg.MakeNoZero"], unfollowed := true, recurses := true, named := ["concordat/marker.signs"], apart := false, laid := [("concordat/marker.signs", laid_concordat_marker_signs)] }
def FallbackFilesSaid : Prop := fallbackFilesRow.holds Tryz.pinned (OpenSpec.ofChange fallbackFilesSpec)

/-- ITS FALSE NEIGHBOUR: 'it returns false'. Refute it at one input. -/
def fallbackFilesWrong : ChangeSpec := { name := "fallbackFiles", fn := fun _ => fun
  | [d1, d2, d3] => { results := [.lit (.bool false)], args := [d1, d2, d3] }
  | _ => none }
def FallbackFilesWrongFalsely : Prop := fallbackFilesRow.holds Tryz.pinned (OpenSpec.ofChange fallbackFilesWrong)

/-- 'concordatlaw32.FallbackTrees': WHATEVER THE INPUT: true; the input reads as it did. -/
def fallbackTreesSpec : ChangeSpec := { name := "fallbackTrees", fn := fun _ => fun
  | [d1, d2, d3] => { results := [.lit (.bool true)], args := [d1, d2, d3] }
  | _ => none }
def fallbackTreesRow : OpenClaim := { program := "ytogfkfkejaiecaagreatdoor", sum := "15dd3be1f34d0849da8c424725630f2f2bebce89353cc614ef452170cedb6343", func := "concordat/concordatlaw32.FallbackTrees", spec := "fallbackTrees", inPlace := ["internal/bytealg.IndexByteString", "internal/abi.NoEscape", "internal/bytealg.MakeNoZero"], unfollowed := true, recurses := true, named := ["concordat/marker.signs"], apart := false, laid := [("concordat/marker.signs", laid_concordat_marker_signs)] }
def FallbackTreesSaid : Prop := fallbackTreesRow.holds Tryz.pinned (OpenSpec.ofChange fallbackTreesSpec)

/-- ITS FALSE NEIGHBOUR: 'it returns false'. Refute it at one input. -/
def fallbackTreesWrong : ChangeSpec := { name := "fallbackTrees", fn := fun _ => fun
  | [d1, d2, d3] => { results := [.lit (.bool false)], args := [d1, d2, d3] }
  | _ => none }
def FallbackTreesWrongFalsely : Prop := fallbackTreesRow.holds Tryz.pinned (OpenSpec.ofChange fallbackTreesWrong)

/-- 'concordatlaw32.FallbackSides': WHATEVER THE INPUT: true; the input reads as it did. -/
def fallbackSidesSpec : ChangeSpec := { name := "fallbackSides", fn := fun _ => fun
  | [d1, d2, d3] => { results := [.lit (.bool true)], args := [d1, d2, d3] }
  | _ => none }
def fallbackSidesRow : OpenClaim := { program := "ytogfkfkejaiecaagreatdoor", sum := "15dd3be1f34d0849da8c424725630f2f2bebce89353cc614ef452170cedb6343", func := "concordat/concordatlaw32.FallbackSides", spec := "fallbackSides", inPlace := ["internal/bytealg.IndexByteString", "internal/abi.NoEscape", "internal/bytealg.MakeNoZero"], unfollowed := true, recurses := true, named := ["concordat/marker.signs"], apart := false, laid := [("concordat/marker.signs", laid_concordat_marker_signs)] }
def FallbackSidesSaid : Prop := fallbackSidesRow.holds Tryz.pinned (OpenSpec.ofChange fallbackSidesSpec)

/-- ITS FALSE NEIGHBOUR: 'it returns false'. Refute it at one input. -/
def fallbackSidesWrong : ChangeSpec := { name := "fallbackSides", fn := fun _ => fun
  | [d1, d2, d3] => { results := [.lit (.bool false)], args := [d1, d2, d3] }
  | _ => none }
def FallbackSidesWrongFalsely : Prop := fallbackSidesRow.holds Tryz.pinned (OpenSpec.ofChange fallbackSidesWrong)

/-- 'concordatlaw32.FallbackOne': WHATEVER THE INPUT: true; the input reads as it did. -/
def fallbackOneSpec : ChangeSpec := { name := "fallbackOne", fn := fun _ => fun
  | [d1, d2] => { results := [.lit (.bool true)], args := [d1, d2] }
  | _ => none }
def fallbackOneRow : OpenClaim := { program := "ytogfkfkejaiecaagreatdoor", sum := "15dd3be1f34d0849da8c424725630f2f2bebce89353cc614ef452170cedb6343", func := "concordat/concordatlaw32.FallbackOne", spec := "fallbackOne", inPlace := ["internal/bytealg.IndexByteString", "internal/abi.NoEscape", "internal/bytealg.MakeNoZero"], unfollowed := true, recurses := true, named := ["concordat/marker.signs"], apart := false, laid := [("concordat/marker.signs", laid_concordat_marker_signs)] }
def FallbackOneSaid : Prop := fallbackOneRow.holds Tryz.pinned (OpenSpec.ofChange fallbackOneSpec)

/-- ITS FALSE NEIGHBOUR: 'it returns false'. Refute it at one input. -/
def fallbackOneWrong : ChangeSpec := { name := "fallbackOne", fn := fun _ => fun
  | [d1, d2] => { results := [.lit (.bool false)], args := [d1, d2] }
  | _ => none }
def FallbackOneWrongFalsely : Prop := fallbackOneRow.holds Tryz.pinned (OpenSpec.ofChange fallbackOneWrong)

/- THE SECOND FORM. 'bulk': how many values and letters a reading holds, each counted each time it is reached (what is shared counts as often as it is met; a slice's spare places count too). A statement '..UptoSaid' is the law's where the arguments, and the package variables that the reading takes, are together of bulk at most 1048576: NARROWER than '..Said'. Prove '..Said' where nothing that the law and all that it calls make is longer than what came in: it says more and counts as full. Else prove '..UptoSaid'. A law counts once. -/
mutual
def uptoBulk {H : Type} : DataW H → Nat
  | .lit (.string bytes) => bytes.length + 1
  | .lit _ => 1
  | .nil => 1
  | .ptr d => uptoBulk d + 1
  | .slice elems spare => uptoBulkAll elems + uptoBulkAll spare + 1
  | .agg parts => uptoBulkAll parts + 1
  | .iface _ d => uptoBulk d + 1
  | .map entries => uptoBulkEntries entries + 1
  | .held _ => 1
def uptoBulkAll {H : Type} : List (DataW H) → Nat
  | [] => 0
  | d :: r => uptoBulk d + uptoBulkAll r
def uptoBulkEntries {H : Type} : List (Lit × DataW H) → Nat
  | [] => 0
  | x :: r => uptoBulkEntry x + uptoBulkEntries r
def uptoBulkEntry {H : Type} : Lit × DataW H → Nat
  | (.string bytes, d) => bytes.length + uptoBulk d + 1
  | (_, d) => uptoBulk d + 1
 end
def uptoSmall : (H : Type) → List (DataW H) → Bool := fun _ ds => decide (uptoBulkAll ds ≤ 1048576)
def OpenSpec.upto (s : _root_.Go.ChangeSpec) : _root_.Go.OpenSpec := { _root_.Go.OpenSpec.ofChange s with cond := some uptoSmall }

/-- 'concordatlaw32.FallbackFiles', WHERE WHAT IT READS IS OF BULK AT MOST 1048576: true; the input reads as it did. -/
def fallbackFilesUptoRow : OpenClaim := { program := "ytogfkfkejaiecaagreatdoor", sum := "15dd3be1f34d0849da8c424725630f2f2bebce89353cc614ef452170cedb6343", func := "concordat/concordatlaw32.FallbackFiles", spec := "fallbackFiles", inPlace := ["internal/bytealg.IndexByteString", "internal/abi.NoEscape", "internal/bytealg.MakeNoZero"], unfollowed := true, recurses := true, named := ["concordat/marker.signs"], apart := false, laid := [("concordat/marker.signs", laid_concordat_marker_signs)], narrowed := true }
def FallbackFilesUptoSaid : Prop := fallbackFilesUptoRow.holds Tryz.pinned (OpenSpec.upto fallbackFilesSpec)

/-- 'concordatlaw32.FallbackTrees', WHERE WHAT IT READS IS OF BULK AT MOST 1048576: true; the input reads as it did. -/
def fallbackTreesUptoRow : OpenClaim := { program := "ytogfkfkejaiecaagreatdoor", sum := "15dd3be1f34d0849da8c424725630f2f2bebce89353cc614ef452170cedb6343", func := "concordat/concordatlaw32.FallbackTrees", spec := "fallbackTrees", inPlace := ["internal/bytealg.IndexByteString", "internal/abi.NoEscape", "internal/bytealg.MakeNoZero"], unfollowed := true, recurses := true, named := ["concordat/marker.signs"], apart := false, laid := [("concordat/marker.signs", laid_concordat_marker_signs)], narrowed := true }
def FallbackTreesUptoSaid : Prop := fallbackTreesUptoRow.holds Tryz.pinned (OpenSpec.upto fallbackTreesSpec)

/-- 'concordatlaw32.FallbackSides', WHERE WHAT IT READS IS OF BULK AT MOST 1048576: true; the input reads as it did. -/
def fallbackSidesUptoRow : OpenClaim := { program := "ytogfkfkejaiecaagreatdoor", sum := "15dd3be1f34d0849da8c424725630f2f2bebce89353cc614ef452170cedb6343", func := "concordat/concordatlaw32.FallbackSides", spec := "fallbackSides", inPlace := ["internal/bytealg.IndexByteString", "internal/abi.NoEscape", "internal/bytealg.MakeNoZero"], unfollowed := true, recurses := true, named := ["concordat/marker.signs"], apart := false, laid := [("concordat/marker.signs", laid_concordat_marker_signs)], narrowed := true }
def FallbackSidesUptoSaid : Prop := fallbackSidesUptoRow.holds Tryz.pinned (OpenSpec.upto fallbackSidesSpec)

/-- 'concordatlaw32.FallbackOne', WHERE WHAT IT READS IS OF BULK AT MOST 1048576: true; the input reads as it did. -/
def fallbackOneUptoRow : OpenClaim := { program := "ytogfkfkejaiecaagreatdoor", sum := "15dd3be1f34d0849da8c424725630f2f2bebce89353cc614ef452170cedb6343", func := "concordat/concordatlaw32.FallbackOne", spec := "fallbackOne", inPlace := ["internal/bytealg.IndexByteString", "internal/abi.NoEscape", "internal/bytealg.MakeNoZero"], unfollowed := true, recurses := true, named := ["concordat/marker.signs"], apart := false, laid := [("concordat/marker.signs", laid_concordat_marker_signs)], narrowed := true }
def FallbackOneUptoSaid : Prop := fallbackOneUptoRow.holds Tryz.pinned (OpenSpec.upto fallbackOneSpec)

end Rows
end Go.Proofs.YtogfkfkejaiecaaGreatDoor
