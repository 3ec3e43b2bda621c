/- A run of the sweep; a step goes to one cell. -/
import Derived.Test.YtpkngagppfoccaaGreatDoorWSweepC
import Derived.Test.YtpkngagppfoccaaGreatDoorWHeapTells
set_option linter.all false
set_option linter.unusedVariables false
set_option linter.unusedSimpArgs false
namespace Go.Abs
open Go.Proofs Go.Proofs.YtpkngagppfoccaaGreatDoor
set_option maxRecDepth 8000

end Go.Abs

namespace Go.Abs
set_option maxRecDepth 8000

end Go.Abs
