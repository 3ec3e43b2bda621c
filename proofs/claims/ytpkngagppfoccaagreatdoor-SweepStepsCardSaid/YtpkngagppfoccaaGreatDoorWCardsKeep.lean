/- Walks: what is dirtied is dirty, what is cleaned is clean; all other cards are as they were, and so are all words. -/
import Derived.Test.YtpkngagppfoccaaGreatDoorWCards2
set_option linter.all false
set_option linter.unusedVariables false
set_option linter.unusedSimpArgs false
namespace Go.Abs
open Go.Proofs Go.Proofs.YtpkngagppfoccaaGreatDoor
set_option maxRecDepth 8000

end Go.Abs
