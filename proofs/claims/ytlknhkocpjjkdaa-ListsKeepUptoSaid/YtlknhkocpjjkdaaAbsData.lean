/- More of the program's data: the collector, the heap. -/
import Derived.Test.YtlknhkocpjjkdaaAbsLib
set_option linter.all false
set_option linter.unusedVariables false
set_option linter.unusedSimpArgs false
namespace Go.Abs

structure Col where
  phase : Int
  epoch : Int
  major : Bool
  work : List Int
  over : Bool
  at_ : Int
  field_ : Int
  seek : Int
  card : Int
  met : Bool
  deriving DecidableEq, Inhabited

def Col.enc (c : Col) : List DV := [DV.int c.phase, DV.int c.epoch, DV.bo c.major, .sl .int c.work, DV.bo c.over, DV.int c.at_, DV.int c.field_, DV.int c.seek, DV.int c.card, DV.bo c.met]

structure Hp where
  w : List Int
  pages : List Page
  free : Lists
  cards : List Bool
  deriving DecidableEq, Inhabited

def Hp.enc (h : Hp) : List DV := [.sl .int h.w, .sl .page h.pages, .sl .int h.free.l0, .sl .int h.free.l1, .sl .int h.free.l2, .sl .bool h.cards]

abbrev Thread.tv (t : Thread) : TV := .dagg (EK.enc .thread t)
abbrev Col.tv (c : Col) : TV := .dagg c.enc
abbrev Hp.tv (h : Hp) : TV := .dagg h.enc
abbrev Lists.tv (l : Lists) : TV := .dagg (EK.enc .lists l)

end Go.Abs
