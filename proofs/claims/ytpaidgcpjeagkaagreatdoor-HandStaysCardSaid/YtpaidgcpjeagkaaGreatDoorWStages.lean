/- Walks: the example of layer 12, and what is said of a thread's stages. -/
import Derived.Test.YtpaidgcpjeagkaaGreatDoorWHolds
import Derived.Test.YtpaidgcpjeagkaaGreatDoorWClone1
set_option linter.all false
set_option linter.unusedVariables false
set_option linter.unusedSimpArgs false
namespace Go.Abs
open Go.Proofs Go.Proofs.YtpaidgcpjeagkaaGreatDoor
set_option maxRecDepth 8000

def t216 : Thread := Thread.zero.setReg 2 16

end Go.Abs
