/- Walks: a sweep cleans no card. -/
import Derived.Test.YtpkngagppfoccaaGreatDoorWSweepA
import Derived.Test.YtpkngagppfoccaaGreatDoorWCardsKeep
import Derived.Test.YtpkngagppfoccaaGreatDoorWCardsTwice
set_option linter.all false
set_option linter.unusedVariables false
set_option linter.unusedSimpArgs false
namespace Go.Abs
open Go.Proofs Go.Proofs.YtpkngagppfoccaaGreatDoor
set_option maxRecDepth 8000

end Go.Abs
