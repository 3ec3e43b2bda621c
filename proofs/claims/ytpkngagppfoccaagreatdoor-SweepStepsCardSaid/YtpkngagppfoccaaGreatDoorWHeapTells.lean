/- Walks: a heap may be, is whole, has heads and objects as the document says. -/
import Derived.Test.YtpkngagppfoccaaGreatDoorWRef07
set_option linter.all false
set_option linter.unusedVariables false
set_option linter.unusedSimpArgs false
namespace Go.Abs
open Go.Proofs Go.Proofs.YtpkngagppfoccaaGreatDoor
set_option maxRecDepth 8000

end Go.Abs
