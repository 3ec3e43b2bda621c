/- Walks: what is grey, what is known of it, and what black ones lead to. -/
import Derived.Test.YtfoeojkifbmddaaDoorWTrace
import Derived.Test.YtfoeojkifbmddaaDoorWRef11
import Derived.Test.YtfoeojkifbmddaaDoorWSame07
set_option linter.all false
set_option linter.unusedVariables false
set_option linter.unusedSimpArgs false
namespace Go.Abs
open Go.Proofs Go.Proofs.YtfoeojkifbmddaaDoor
set_option maxRecDepth 8000

theorem used_len (g : Hp) : (usedH g).length ≤ 512 := by
  unfold usedH
  cases mayH g [] with
  | false => simp
  | true => exact Nat.le_trans (List.length_filter_le _ _) (starts_len g.pages)

theorem few16_spec (g : Hp) (c : Col) : Spec X 5 [] [g.tv, c.tv] (Ret [] (.bo (few11 g c))) := by
  refine spec_go X_ok Tryd.f5 (by kernel_rfl) (by kernel_rfl) (by kernel_rfl) fun hb hH => ⟨rfl, ?_⟩
  show ACall _ _ _ _ _ _
  refine call_ret (Few_spec g) rfl ?_
  show ARet _ _ _
  refine ret_bo (x := bif fewH g then decide ((c.work.length : Int) ≤ 100) else false) ?_ ⟨rfl, rfl⟩
  unfold few11
  have e : decide ((c.work.length : Int) ≤ 100) = decide (c.work.length ≤ 100) := by rw [decide_eq_decide]; omega
  rw [e]
  cases fewH g <;> rfl

theorem len0 {α : Type} (l : List α) : decide ((l.length : Int) = 0) = decide (l = []) := by
  cases l
  · rfl
  · rw [decide_eq_decide]; constructor
    · intro h; simp at h; omega
    · intro h; cases h
theorem tOver_spec (g : Hp) (c : Col) (hl : g.light) : Spec X 12 [] [g.tv, c.tv] (Ret [] (.bo (decide (greyH g c = [] ∧ c.work = [] ∧ c.over = false ∧ c.at_ = 0 ∧ c.seek = 0)))) := by
  refine spec_go X_ok Tryd.f12 (by kernel_rfl) (by kernel_rfl) (by kernel_rfl) fun hb hH => ⟨rfl, ?_⟩
  show ACall _ _ _ _ _ _
  refine call_ret (Grey_spec g c hl) rfl ?_
  show ARet _ _ _
  refine ret_bo (x := bif (bif (bif (bif decide (((greyH g c).length : Int) = 0) then decide ((c.work.length : Int) = 0) else false) then !c.over else false) then decide (c.at_ = 0) else false) then decide (c.seek = 0) else false) ?_ ⟨rfl, rfl⟩
  rw [len0, len0]
  by_cases h1 : greyH g c = [] <;> by_cases h2 : c.work = [] <;> cases h3 : c.over <;> by_cases h4 : c.at_ = 0 <;> by_cases h5 : c.seek = 0 <;> simp [h1, h2, h4, h5]

theorem take_contains {l : List Int} {k : Nat} (h : k < l.length) (a : Int) : (l.take (k + 1)).contains a = ((l.take k).contains a || decide (l.getD k default = a)) := by
  rw [take_at0 h, List.contains_eq_any_beq, List.any_append, ← List.contains_eq_any_beq]
  simp [at0, eq_comm]
  rfl

def knownU (c : Col) (u : Int) : Bool := (c.over || (decide (u = c.at_) || (!decide (c.seek = 0) && decide (u > c.seek)))) || c.work.contains u
theorem known_all (g : Hp) (c : Col) : knownB g c = (greyH g c).all (knownU c) := by
  unfold knownB
  congr 1
  funext u
  unfold knownU
  rw [show (u == c.at_) = decide (u = c.at_) from rfl, show (c.seek != 0) = !decide (c.seek = 0) from rfl]
  cases c.over <;> cases decide (u = c.at_) <;> cases decide (c.seek = 0) <;> cases decide (u > c.seek) <;> rfl

def kB (b : Bool) (l : List Int) (k : Nat) (u : Int) : Bool := b || (l.take k).contains u
theorem kB_step {l : List Int} {k : Nat} (h : k < l.length) (b : Bool) (u : Int) : kB b l (k + 1) u = (kB b l k u || decide (l.getD k default = u)) := by
  unfold kB
  rw [take_contains h, Bool.or_assoc]
theorem kB_zero (b : Bool) (l : List Int) (u : Int) : kB b l 0 u = b := by unfold kB; simp
theorem kB_all (b : Bool) (l : List Int) (u : Int) : kB b l l.length u = (b || l.contains u) := by unfold kB; rw [List.take_length]


end Go.Abs
