/- Walks: the objects of a card. -/
import Derived.Test.YtpkngagppfoccaaGreatDoorWCards
set_option linter.all false
set_option linter.unusedVariables false
set_option linter.unusedSimpArgs false
namespace Go.Abs
open Go.Proofs Go.Proofs.YtpkngagppfoccaaGreatDoor
set_option maxRecDepth 8000

def onTo (g : Hp) (c : Int) (n : Nat) : List Int := ((List.range n).map fun i : Nat => 16 + c * 8 + (i : Int)).filter fun a => (usedH g).contains a
/-- The objects that begin on a card. -/
def onH (g : Hp) (c : Int) : List Int := bif decide (0 ≤ c ∧ c < (g.cards.length : Int)) then onTo g c 8 else []
def nextO (g : Hp) (c a : Int) : Option Int := (onH g c).find? fun b => decide (a < b) && (headH g b).old

theorem onTo_succ (g : Hp) (c : Int) (n : Nat) : onTo g c (n + 1) = onTo g c n ++ (bif (usedH g).contains (16 + c * 8 + (n : Int)) then [16 + c * 8 + (n : Int)] else []) := by
  unfold onTo
  rw [List.range_succ, List.map_append, List.filter_append]
  have e : ([16 + c * 8 + (n : Int)] : List Int).filter (fun a => (usedH g).contains a) = bif (usedH g).contains (16 + c * 8 + (n : Int)) then [16 + c * 8 + (n : Int)] else [] := by
    rw [List.filter_cons, List.filter_nil]
    cases (usedH g).contains (16 + c * 8 + (n : Int)) <;> rfl
  rw [← e]
  rfl

theorem onTo_len (g : Hp) (c : Int) (n : Nat) : (onTo g c n).length ≤ n := by
  unfold onTo
  refine Nat.le_trans (List.length_filter_le _ _) ?_
  simp

end Go.Abs
