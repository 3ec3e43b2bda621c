/- Walks: a word is got. -/
import Derived.Test.YtbbakbkmjhhbpaaGreatDoorWTraceK
set_option linter.all false
set_option linter.unusedVariables false
set_option linter.unusedSimpArgs false
namespace Go.Abs
open Go.Proofs Go.Proofs.YtbbakbkmjhhbpaaGreatDoor
set_option maxRecDepth 8000

theorem Marks.light {g k : Hp} (h : Marks g k) (hl : g.light) : k.light := by unfold Hp.light; rw [h.free]; exact hl
theorem Marks.small {g k : Hp} (h : Marks g k) (hs : g.small) : k.small := by unfold Hp.small; rw [h.free, h.pages, h.cards, h.len]; exact hs

theorem part1_spec (w : List Int) (a : Int) (hw : mayW w = true) (ha : 16 ≤ a ∧ a < 16 + w.length) : Spec X 94 [] [.c (.d (.sl .int w)), .int a, .int 1] (Ret [] (.tup [.c (.d (.sl .int ((w.drop (a - 16).toNat).take 1))), .int 0])) := by
  refine spec_go X_ok Tryz.f94 (by kernel_rfl) (by kernel_rfl) (by kernel_rfl) fun hb hH => ⟨rfl, ?_⟩
  show ACall _ _ _ _ _ _
  refine call_ret (aMay_spec w) rfl ?_
  rw [hw]
  show ABr (!true) _ _
  show ABr _ _ _
  refine ⟨fun h => absurd h (by decide), fun _ => ?_⟩
  show ABr _ _ _
  refine ⟨fun h => absurd h (by decide), fun _ => ?_⟩
  have h1 : w.length ≤ 1024 := by have := of_decide_eq_true hw; omega
  have e1 : IntKind.i64.wrap (a - 16) = a - 16 := wrap64 (by omega) (by omega)
  have e2 : IntKind.i64.wrap ((w.length : Int) - (a - 16)) = w.length - (a - 16) := wrap64 (by omega) (by omega)
  show ABr (bif decide ((1 : Int) > 0) then (bif (bif decide (a < 16) then true else decide (IntKind.i64.wrap (a - 16) ≥ (w.length : Int))) then true else decide ((1 : Int) > IntKind.i64.wrap ((w.length : Int) - IntKind.i64.wrap (a - 16)))) else false) _ _
  rw [e1, e2]
  refine ⟨fun h => ?_, fun _ => ?_⟩
  · exfalso
    have g1 : decide (a < 16) = false := decide_eq_false (by omega)
    have g2 : decide (a - 16 ≥ (w.length : Int)) = false := decide_eq_false (by omega)
    have g3 : decide ((1 : Int) > (w.length : Int) - (a - 16)) = false := decide_eq_false (by omega)
    rw [g1, g2, g3] at h
    exact absurd h (by decide)
  · show ABr _ _ _
    refine ⟨fun h => absurd h (by decide), fun _ => ?_⟩
    show AOb ((0 : Int) ≤ IntKind.i64.wrap (a - 16) ∧ IntKind.i64.wrap (a - 16) ≤ (w.length : Int)) _
    rw [e1]
    refine ⟨by omega, ?_⟩
    have hdl : (w.drop (a - 16).toNat).length = w.length - (a - 16).toNat := List.length_drop
    show AOb ((0 : Int) ≤ 1 ∧ (1 : Int) ≤ 1 ∧ (1 : Int) ≤ (((w.drop (a - 16).toNat).length : Nat) : Int)) _
    refine ⟨by omega, ?_⟩
    show ARet _ _ _
    exact ret_d rfl ⟨rfl, rfl⟩

theorem aGet_spec (w : List Int) (a : Int) (hw : mayW w = true) (ha : 16 ≤ a ∧ a < 16 + w.length) : Spec X 62 [] [.c (.d (.sl .int w)), .int a] (Ret [] (.tup [.int (at0 w (a - 16).toNat), .int 0])) := by
  refine spec_go X_ok Tryz.f62 (by kernel_rfl) (by kernel_rfl) (by kernel_rfl) fun hb hH => ⟨rfl, ?_⟩
  show ACall _ _ _ _ _ _
  refine call_ret (part1_spec w a hw ha) rfl ?_
  have hdl : ((w.drop (a - 16).toNat).take 1).length = 1 := by rw [List.length_take, List.length_drop]; omega
  show ABr _ _ _
  refine ⟨fun h => absurd h (by decide), fun _ => ?_⟩
  show AOb ((0 : Int) ≤ 0 ∧ (0 : Int) < ((((w.drop (a - 16).toNat).take 1).length : Nat) : Int)) _
  refine ⟨by omega, ?_⟩
  have hv : ((w.drop (a - 16).toNat).take 1).getD 0 default = at0 w (a - 16).toNat := by
    unfold at0
    simp [List.getD_eq_getElem?_getD]
  show ARet _ _ _
  exact ⟨[], [], [.int (at0 w (a - 16).toNat), .int 0], .cons _ _ _ _ (.int_eq hv) (.cons _ _ _ _ .same .nil), .nil, rfl, rfl, rfl⟩
end Go.Abs
