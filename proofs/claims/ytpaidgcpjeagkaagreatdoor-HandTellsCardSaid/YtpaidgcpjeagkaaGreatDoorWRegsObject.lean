/- Walks: the object of a register. -/
import Derived.Test.YtpaidgcpjeagkaaGreatDoorWRef07
import Derived.Test.YtpaidgcpjeagkaaGreatDoorWRef12
set_option linter.all false
set_option linter.unusedVariables false
set_option linter.unusedSimpArgs false
namespace Go.Abs
open Go.Proofs Go.Proofs.YtpaidgcpjeagkaaGreatDoor
set_option maxRecDepth 8000

def objE (g : Hp) (t : Thread) (r : Int) : Int := if 0 ≤ r ∧ r ≤ 3 then (if headE g (t.reg r) = 0 then 0 else 5) else 1
def objA (g : Hp) (t : Thread) (r : Int) : Int := if 0 ≤ r ∧ r ≤ 3 then (if headE g (t.reg r) = 0 then t.reg r else 0) else 0
def objN (g : Hp) (t : Thread) (r : Int) : Int := if 0 ≤ r ∧ r ≤ 3 then (if headE g (t.reg r) = 0 then (headH g (t.reg r)).n else 0) else 0

end Go.Abs
