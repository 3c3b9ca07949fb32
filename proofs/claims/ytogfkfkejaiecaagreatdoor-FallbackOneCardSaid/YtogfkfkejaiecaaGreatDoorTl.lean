/- Contracts of the reference's marker: trimmed, Parse. -/
import Derived.Test.YtogfkfkejaiecaaGreatDoorTk
import Derived.Test.YtogfkfkejaiecaaGreatDoorTj

namespace Go.Proofs.YtogfkfkejaiecaaGreatDoor.Re
open Go.RowKit Go.Shelf Pl Ut Ln Bl Mm Mr Mp Ra Rb Rd Go.Proofs.YtogfkfkejaiecaaGreatDoorW.PrintWords
set_option linter.unusedVariables false
set_option linter.unusedSimpArgs false
attribute [local go_sem] B_append B_extract B_toList B_size take_end

/-- What trimmed hands back. -/
def trimR (s : Str) : Str × Bool := match takeL s true with
  | some t => (t, true)
  | none => (s, false)
end Go.Proofs.YtogfkfkejaiecaaGreatDoor.Re
