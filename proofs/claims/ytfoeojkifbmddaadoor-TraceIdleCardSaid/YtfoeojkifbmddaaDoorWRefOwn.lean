/- Walks: the document's heaps of one's own; a head is set; a new heap. -/
import Derived.Test.YtfoeojkifbmddaaDoorWRef07
import Derived.Test.YtfoeojkifbmddaaDoorWShade
import Derived.Test.YtfoeojkifbmddaaDoorWSame07
set_option linter.all false
set_option linter.unusedVariables false
set_option linter.unusedSimpArgs false
namespace Go.Abs
open Go.Proofs Go.Proofs.YtfoeojkifbmddaaDoor
set_option maxRecDepth 8000

/-- A heap whose words, pages and cards are rows of one's own. -/
def Hp.owned (g : Hp) : TV := .agg [.own 0, .own 1, .d (.sl .int g.free.l0), .d (.sl .int g.free.l1), .d (.sl .int g.free.l2), .own 2]
def Hp.rows (g : Hp) : Heap := [(0, .data .int g.w), (1, .data .page g.pages), (2, .data .bool g.cards)]

end Go.Abs
