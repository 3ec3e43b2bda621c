/- Walks: any head is set as the document says. -/
import Derived.Test.YtfoeojkifbmddaaGreatDoorWRefOwn
import Derived.Test.YtfoeojkifbmddaaGreatDoorWShadeK
set_option linter.all false
set_option linter.unusedVariables false
set_option linter.unusedSimpArgs false
namespace Go.Abs
open Go.Proofs Go.Proofs.YtfoeojkifbmddaaGreatDoor
set_option maxRecDepth 8000


end Go.Abs
