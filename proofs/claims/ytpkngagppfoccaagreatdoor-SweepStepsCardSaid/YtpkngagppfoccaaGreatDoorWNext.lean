/- Walks: the next cell. -/
import Derived.Test.YtpkngagppfoccaaGreatDoorWCells1
set_option linter.all false
set_option linter.unusedVariables false
set_option linter.unusedSimpArgs false
namespace Go.Abs
open Go.Proofs Go.Proofs.YtpkngagppfoccaaGreatDoor
set_option maxRecDepth 8000

/-- The first cell behind an address. -/
def nextS (l : List Page) (a : Int) : Int := ((cellStarts l).find? fun s => decide (a < s)).getD 0

theorem nextS_cases (l : List Page) (a : Int) : (nextS l a = 0 ∧ ∀ u ∈ cellStarts l, u ≤ a) ∨ (a < nextS l a ∧ nextS l a ∈ cellStarts l ∧ ∀ u ∈ cellStarts l, a < u → nextS l a ≤ u) := by
  unfold nextS
  have hs := starts_sorted l
  generalize cellStarts l = L at *
  induction L with
  | nil => exact .inl ⟨rfl, fun u h => by cases h⟩
  | cons x r ih =>
    rw [List.pairwise_cons] at hs
    rw [List.find?_cons]
    by_cases hx : a < x
    · rw [decide_eq_true hx]
      refine .inr ⟨hx, List.mem_cons_self .., fun u hu _ => ?_⟩
      rcases List.mem_cons.1 hu with e | hu
      · rw [e]; exact Int.le_refl _
      · exact Int.le_of_lt (hs.1 u hu)
    · rw [decide_eq_false hx]
      rcases ih hs.2 with ⟨h1, h2⟩ | ⟨h1, h2, h3⟩
      · refine .inl ⟨h1, fun u hu => ?_⟩
        rcases List.mem_cons.1 hu with e | hu
        · omega
        · exact h2 u hu
      · refine .inr ⟨h1, List.mem_cons_of_mem _ h2, fun u hu ha => ?_⟩
        rcases List.mem_cons.1 hu with e | hu
        · omega
        · exact h3 u hu ha

theorem place_ahead_spec (a : Int) (x : Int × Int) : Spec X 62 [] [.int a, .agg [.d (DV.int x.1), .d (DV.int x.2)]] (Ret [] (.bo (decide (a < x.1)))) := by
  refine spec_go X_ok Tryz.f62 (by kernel_rfl) (by kernel_rfl) (by kernel_rfl) fun hb hH => ⟨rfl, ?_⟩
  show ARet _ _ _
  exact ret_bo rfl ⟨rfl, rfl⟩

def nextB (l : List Page) (a : Int) : Bool := ((cellStarts l).find? fun s => decide (a < s)).isSome
theorem nextS_find (l : List Page) (a : Int) : (cellStarts l).find? (fun s => decide (a < s)) = ((cellsAll l).find? fun x => decide (a < x.1)).map (·.1) := by
  unfold cellStarts
  rw [List.find?_map]
  rfl

theorem nextC_spec (l : List Page) (a : Int) : Spec X 28 [] [.c (.d (.sl .page l)), .int a] (Ret [] (.tup [.int (nextS l a), .bo (nextB l a)])) := by
  refine spec_go X_ok Tryz.f28 (by kernel_rfl) (by kernel_rfl) (by kernel_rfl) fun hb hH => ⟨rfl, ?_⟩
  unfold nextS nextB
  rw [nextS_find]
  cases h : (cellsAll l).find? fun x => decide (a < x.1) with
  | none =>
    show ACall _ _ _ _ _ _
    refine call_ret (firstCN (place_ahead_spec a) h) rfl ?_
    show ARet _ _ _
    exact ret_d rfl ⟨rfl, rfl⟩
  | some x =>
    show ACall _ _ _ _ _ _
    refine call_ret (firstCN (place_ahead_spec a) h) rfl ?_
    show ARet _ _ _
    exact ret_d rfl ⟨rfl, rfl⟩

end Go.Abs
