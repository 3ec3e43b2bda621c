/- Walks: of what may not be, and of nobody's addresses, there is no card. -/
import Derived.Test.YtkalcaokmadpjaaDoorWCards2
set_option linter.all false
set_option linter.unusedVariables false
set_option linter.unusedSimpArgs false
namespace Go.Abs
open Go.Proofs Go.Proofs.YtkalcaokmadpjaaDoor
set_option maxRecDepth 8000

theorem CardsNone_spec (g : Hp) (a c : Int) (ha : a < 9223372036854775808) : Spec X 12 [] [g.tv, .int a, .int c] (Ret [] (.bo true)) := by
  refine spec_go X_ok Tryd.f12 (by kernel_rfl) (by kernel_rfl) (by kernel_rfl) fun hb hH => ⟨rfl, ?_⟩
  show ACall _ _ _ _ _ _
  refine call_ret (awake10_spec) rfl ?_
  show ACall _ _ _ _ _ _
  refine call_ret (Few_spec g) rfl ?_
  cases hf : fewH g with
  | false =>
    show ABr _ _ _
    refine ⟨fun _ => ?_, fun h => absurd h (by decide)⟩
    show ARet _ _ _
    exact ret_d rfl ⟨rfl, rfl⟩
  | true =>
    have hl := few_light hf
    have hlw : g.w.length ≤ 130 := (of_decide_eq_true hf).1
    show ABr _ _ _
    refine ⟨fun h => absurd h (by decide), fun _ => ?_⟩
    show ACall _ _ _ _ _ _
    refine call_ret (cOf10_spec g a hl ha) rfl ?_
    show ACall _ _ _ _ _ _
    refine call_ret (Dirty_spec g a hl ha) rfl ?_
    show ACall _ _ _ _ _ _
    refine call_ret (Clean_spec g c hl) rfl ?_
    show ACall _ _ _ _ _ _
    refine call_ret (hHMay0_spec g hl) rfl ?_
    cases hm : mayH g [] with
    | false =>
      have e1 : cardE g a = 1 := by unfold cardE; rw [hm]; rfl
      have e2 : cleanE g c = 1 := by unfold cleanE; rw [hm]; rfl
      have e3 : onH g c = [] := by
        unfold onH
        cases decide (0 ≤ c ∧ c < (g.cards.length : Int))
        · rfl
        · show onTo g c 8 = []
          unfold onTo
          have : usedH g = [] := by unfold usedH; rw [hm]; rfl
          rw [this]
          rfl
      rw [e1, e2]
      show ABr _ _ _
      refine ⟨fun _ => ?_, fun h => absurd h (by decide)⟩
      show AIf _ _ _
      refine ⟨fun _ => ?_, fun h => absurd ⟨rfl, trivial⟩ h⟩
      show ACall _ _ _ _ _ _
      refine call_ret (On_spec g c hl) rfl ?_
      rw [e3]
      show ARet _ _ _
      exact ret_d rfl ⟨rfl, rfl⟩
    | true =>
      have w1 : IntKind.i64.wrap (16 + (g.w.length : Int)) = 16 + (g.w.length : Int) := wrap64 (by omega) (by omega)
      show ABr _ _ _
      refine ⟨fun h => absurd h (by decide), fun _ => ?_⟩
      have hP : (bif (bif true then decide (a ≥ 16) else false) then decide (a < IntKind.i64.wrap (16 + (g.w.length : Int))) else false) = (cardE g a == 0) := by
        rw [w1]
        by_cases h1 : 16 ≤ a
        · by_cases h2 : a < 16 + (g.w.length : Int)
          · rw [cardE_mk hm ⟨h1, h2⟩, decide_eq_true (show a ≥ 16 from h1), decide_eq_true h2]; rfl
          · have : cardE g a = 3 := by unfold cardE; rw [hm, decide_eq_false (p := 16 ≤ a ∧ a < 16 + (g.w.length : Int)) (by omega)]; rfl
            rw [this, decide_eq_true (show a ≥ 16 from h1), decide_eq_false h2]; rfl
        · have : cardE g a = 3 := by unfold cardE; rw [hm, decide_eq_false (p := 16 ≤ a ∧ a < 16 + (g.w.length : Int)) (by omega)]; rfl
          rw [this, decide_eq_false (show ¬ a ≥ 16 from h1)]; rfl
      have hO : (bif (cardE g a == 0) then true else cardOf g a == 0) = true := by
        by_cases h : cardE g a = 0
        · rw [h]; rfl
        · rw [cardOf_no h]
          cases (cardE g a == 0) <;> rfl
      by_cases hic : 0 ≤ c ∧ c < (g.cards.length : Int)
      · have e2 : cleanE g c = 0 := by unfold cleanE; rw [hm, decide_eq_true hic]; rfl
        have hQ : (bif (bif true then decide (c ≥ 0) else false) then decide (c < (g.cards.length : Int)) else false) = true := by rw [decide_eq_true (show c ≥ 0 from hic.1), decide_eq_true hic.2]; rfl
        rw [e2]
        show AIf ((bif (bif true then decide (c ≥ 0) else false) then decide (c < (g.cards.length : Int)) else false) = false ∧ _) _ _
        refine ⟨fun h => absurd (hQ.symm.trans h.1) (by decide), fun _ => ?_⟩
        show AOb (_ → (bif (bif true then decide (c ≥ 0) else false) then decide (c < (g.cards.length : Int)) else false) = true) _
        refine ⟨fun _ => hQ, ?_⟩
        have hK : (bif (bif (bif (cardE g a == 0) == (bif (bif true then decide (a ≥ 16) else false) then decide (a < IntKind.i64.wrap (16 + (g.w.length : Int))) else false) then cardE g a == cardE g a else false) then ((0 : Int) == 0) == (bif (bif true then decide (c ≥ 0) else false) then decide (c < (g.cards.length : Int)) else false) else false) then (bif (bif (bif true then decide (a ≥ 16) else false) then decide (a < IntKind.i64.wrap (16 + (g.w.length : Int))) else false) then true else cardOf g a == 0) else false) = true := by
          rw [hP, hQ, hO, beq_self_eq_true, beq_self_eq_true]
          rfl
        show ARet _ _ _
        refine ret_bo (x := bif (bif (bif (bif (cardE g a == 0) == (bif (bif true then decide (a ≥ 16) else false) then decide (a < IntKind.i64.wrap (16 + (g.w.length : Int))) else false) then cardE g a == cardE g a else false) then ((0 : Int) == 0) == (bif (bif true then decide (c ≥ 0) else false) then decide (c < (g.cards.length : Int)) else false) else false) then (bif (bif (bif true then decide (a ≥ 16) else false) then decide (a < IntKind.i64.wrap (16 + (g.w.length : Int))) else false) then true else cardOf g a == 0) else false) then true else false) ?_ ⟨rfl, rfl⟩
        rw [hK]
        rfl
      · have e2 : cleanE g c = 3 := by unfold cleanE; rw [hm, decide_eq_false hic]; rfl
        have hQ : (bif (bif true then decide (c ≥ 0) else false) then decide (c < (g.cards.length : Int)) else false) = false := by
          by_cases h1 : 0 ≤ c
          · rw [decide_eq_true (show c ≥ 0 from h1), decide_eq_false (show ¬ c < (g.cards.length : Int) from fun h => hic ⟨h1, h⟩)]; rfl
          · rw [decide_eq_false (show ¬ c ≥ 0 from h1)]; rfl
        have hK : (bif (bif (bif (cardE g a == 0) == (bif (bif true then decide (a ≥ 16) else false) then decide (a < IntKind.i64.wrap (16 + (g.w.length : Int))) else false) then cardE g a == cardE g a else false) then ((3 : Int) == 0) == (bif (bif true then decide (c ≥ 0) else false) then decide (c < (g.cards.length : Int)) else false) else false) then (bif (bif (bif true then decide (a ≥ 16) else false) then decide (a < IntKind.i64.wrap (16 + (g.w.length : Int))) else false) then true else cardOf g a == 0) else false) = true := by
          rw [hP, hQ, hO, beq_self_eq_true, beq_self_eq_true]
          rfl
        rw [e2]
        show AIf ((bif (bif true then decide (c ≥ 0) else false) then decide (c < (g.cards.length : Int)) else false) = false ∧ (bif (bif (bif (cardE g a == 0) == (bif (bif true then decide (a ≥ 16) else false) then decide (a < IntKind.i64.wrap (16 + (g.w.length : Int))) else false) then cardE g a == cardE g a else false) then ((3 : Int) == 0) == (bif (bif true then decide (c ≥ 0) else false) then decide (c < (g.cards.length : Int)) else false) else false) then (bif (bif (bif true then decide (a ≥ 16) else false) then decide (a < IntKind.i64.wrap (16 + (g.w.length : Int))) else false) then true else cardOf g a == 0) else false) = true ∧ True) _ _
        refine ⟨fun _ => ?_, fun h => absurd ⟨hQ, hK, trivial⟩ h⟩
        show ACall _ _ _ _ _ _
        refine call_ret (On_spec g c hl) rfl ?_
        have e3 : onH g c = [] := by unfold onH; rw [decide_eq_false hic]; rfl
        rw [e3]
        show ARet _ _ _
        refine ret_bo (x := bif (bif (bif (bif (cardE g a == 0) == (bif (bif true then decide (a ≥ 16) else false) then decide (a < IntKind.i64.wrap (16 + (g.w.length : Int))) else false) then cardE g a == cardE g a else false) then ((3 : Int) == 0) == (bif (bif true then decide (c ≥ 0) else false) then decide (c < (g.cards.length : Int)) else false) else false) then (bif (bif (bif true then decide (a ≥ 16) else false) then decide (a < IntKind.i64.wrap (16 + (g.w.length : Int))) else false) then true else cardOf g a == 0) else false) then (([] : List Int).length : Int) == 0 else false) ?_ ⟨rfl, rfl⟩
        rw [hK]
        rfl
end Go.Abs
