/- Walks: lists pushed to, popped, moved. -/
import Derived.Test.YtpaidgcpjeagkaaGreatDoorWSl
import Derived.Test.YtpaidgcpjeagkaaGreatDoorWClone1
set_option linter.all false
set_option linter.unusedVariables false
set_option linter.unusedSimpArgs false
namespace Go.Abs
open Go.Proofs Go.Proofs.YtpaidgcpjeagkaaGreatDoor
set_option maxRecDepth 8000

theorem LeC.frzv {ρ : List (Nat × Nat)} {h h' : Heap} {k : EK} {l l' : List k.T} {b o m : Nat} (h1 : (nmOf ρ b).isNone = true) (h2 : hlook h b = some (.data k l)) (h3 : o + m ≤ l.length) (h4 : (l.drop o).take m = l') : LeC ρ h h' (.view b o m) (.d (.sl k l')) := by
  subst h4
  refine .frz _ _ ?_
  show lendC _ _ (7 + 1) _ = _
  simp only [lendC]
  rw [h1, h2]
  have : Nat.ble (o + m) l.length = true := by rw [Nat.ble_eq]; exact h3
  simp only [this, cond_true]

theorem copied (l : List Int) : splice (List.replicate ((l.length : Int)).toNat (0 : Int)) 0 (l.take (List.replicate ((l.length : Int)).toNat (0 : Int)).length) = l := by
  unfold splice
  simp

abbrev own3 (l : Lists) : Heap := [(0, .data .int l.l0), (1, .data .int l.l1), (2, .data .int l.l2)]
abbrev own3T : TV := .agg [.own 0, .own 1, .own 2]

/-- A class's list. -/
def Lists.at_ (l : Lists) (c : Int) : List Int := if c = 0 then l.l0 else if c = 1 then l.l1 else l.l2
def Lists.set_ (l : Lists) (c : Int) (x : List Int) : Lists := if c = 0 then { l with l0 := x } else if c = 1 then { l with l1 := x } else { l with l2 := x }
def Lists.zero : Lists := ⟨[], [], []⟩

end Go.Abs

namespace Go.Abs
open Go.Proofs Go.Proofs.YtpaidgcpjeagkaaGreatDoor
set_option maxRecDepth 8000

theorem LeC.frz_eq {ρ : List (Nat × Nat)} {h h' : Heap} {x : CV} {k : EK} {l m : List k.T} (h1 : lendC (fun b => (nmOf ρ b).isNone) h 8 x = some (.sl k l)) (e : l = m) : LeC ρ h h' x (.d (.sl k m)) := by subst e; exact .frz _ _ h1

def leftOf (len : Nat) (n : Int) : Nat := len - n.toNat

theorem left_eq {len : Nat} {n : Int} (hl : len ≤ 68719476736) (h0 : 0 ≤ n) (h1 : n ≤ 9223372036854775807) : (if (0 : Int) > IntKind.i64.wrap ((len : Int) - n) then (0 : Int) else IntKind.i64.wrap ((len : Int) - n)) = ((leftOf len n : Nat) : Int) := by
  rw [wrap64 (by omega) (by omega)]
  unfold leftOf
  split <;> omega

theorem moved (a : List Int) (k : Nat) (h : k ≤ a.length) : (((revd a k (a.length - k)).drop k).take (a.length - k)) = (a.drop k).reverse ∧ (revd a k (a.length - k)).take k = a.take k := by
  unfold revd
  have e1 : (a.take k).length = k := by simp; omega
  have e2 : (a.drop k).take (a.length - k) = a.drop k := by rw [List.take_of_length_le]; simp
  rw [e2]
  constructor
  · rw [List.append_assoc, List.drop_left' e1, List.take_left' (by simp)]
  · rw [List.append_assoc, List.take_left' e1]

end Go.Abs
