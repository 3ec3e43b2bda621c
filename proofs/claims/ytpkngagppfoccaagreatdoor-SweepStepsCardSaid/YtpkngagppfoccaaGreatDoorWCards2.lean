/- Walks: the objects of a card. -/
import Derived.Test.YtpkngagppfoccaaGreatDoorWCards
set_option linter.all false
set_option linter.unusedVariables false
set_option linter.unusedSimpArgs false
namespace Go.Abs
open Go.Proofs Go.Proofs.YtpkngagppfoccaaGreatDoor
set_option maxRecDepth 8000

end Go.Abs
