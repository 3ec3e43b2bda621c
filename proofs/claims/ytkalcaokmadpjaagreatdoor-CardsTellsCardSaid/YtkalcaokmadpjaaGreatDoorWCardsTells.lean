/- Walks: any address has the card that the document says. -/
import Derived.Test.YtkalcaokmadpjaaGreatDoorWRef10
import Derived.Test.YtkalcaokmadpjaaGreatDoorWShade2
set_option linter.all false
set_option linter.unusedVariables false
set_option linter.unusedSimpArgs false
namespace Go.Abs
open Go.Proofs Go.Proofs.YtkalcaokmadpjaaGreatDoor
set_option maxRecDepth 8000

theorem CardsTells_spec (g : Hp) (hw : ∀ x ∈ g.w, I64 x) (a : Int) (ha : a < 9223372036854775808) (c : Int) : Spec X 5 [] [g.tv, .int a, .int c] (Ret [] (.bo true)) := by
  refine spec_go X_ok Tryz.f5 (by kernel_rfl) (by kernel_rfl) (by kernel_rfl) fun hb hH => ⟨rfl, ?_⟩
  show ACall _ _ _ _ _ _
  refine call_ret (awake10_spec) rfl ?_
  show ACall _ _ _ _ _ _
  refine call_ret (Few_spec g) rfl ?_
  cases hf : fewH g with
  | false =>
    show ABr _ _ _
    refine ⟨fun _ => ?_, fun h => absurd h (by decide)⟩
    show ARet _ _ _
    exact ret_d rfl ⟨rfl, rfl⟩
  | true =>
    show ABr _ _ _
    refine ⟨fun h => absurd h (by decide), fun _ => ?_⟩
    have hl := few_light hf
    have hs := few_small hf
    show ACall _ _ _ _ _ _
    refine .mk _ (rOwn7_spec g hs) fun H r hq _ _ => ?_
    obtain ⟨rfl, rfl⟩ := hq
    refine ⟨.inl rfl, ?_⟩
    show ACall _ _ _ _ _ _
    refine call_ret (cOf10_spec g a hl ha) rfl ?_
    show ACall _ _ _ _ _ _
    refine call_ret (rOf10_spec g a hl hw) rfl ?_
    show ACall _ _ _ _ _ _
    refine call_ret (Dirty_spec g a hl ha) rfl ?_
    show ACall _ _ _ _ _ _
    refine call_ret (rDirty_spec g a hl hs hw) rfl ?_
    show ACall _ _ _ _ _ _
    refine call_ret (hSame_spec (dirtyH g a) (dirtyH g a)) rfl ?_
    rw [decide_eq_true rfl]
    show ACall _ _ _ _ _ _
    refine call_ret (Clean_spec g c hl) rfl ?_
    show ACall _ _ _ _ _ _
    refine call_ret (rClean_spec g c hl hs hw) rfl ?_
    show ACall _ _ _ _ _ _
    refine call_ret (hSame_spec (cleanH g c) (cleanH g c)) rfl ?_
    rw [decide_eq_true rfl]
    show ADCall _ _ _ _ _ _
    refine .mk _ _ (On_spec g c hl) rfl ?_
    show ADCall _ _ _ _ _ _
    refine .mk _ _ (rOn_spec g c hl hw) rfl ?_
    show ADCall _ _ _ _ _ _
    refine .mk _ _ (Ints_spec (onH g c) (onH g c)) rfl ?_
    rw [decide_eq_true rfl]
    show ACall _ _ _ _ _ _
    refine call_ret (cNext_spec g c a hl) rfl ?_
    show ACall _ _ _ _ _ _
    refine call_ret (rNext10_spec g c a hl hw) rfl ?_
    show ACall _ _ _ _ _ _
    refine .mk' (args' := [g.tv, g.tv]) ?_ (hSame_spec g g) rfl ?_
    · rfl
    rw [decide_eq_true rfl]
    show ABr _ _ _
    refine ⟨fun _ => ?_, fun h => absurd h (by simp)⟩
    show ABr _ _ _
    refine ⟨fun _ => ?_, fun h => absurd h (by decide)⟩
    show ABr _ _ _
    refine ⟨fun _ => ?_, fun h => absurd h (by simp)⟩
    show ABr _ _ _
    refine ⟨fun _ => ?_, fun h => absurd h (by simp)⟩
    show ABr _ _ _
    refine ⟨fun _ => ?_, fun h => absurd h (by decide)⟩
    show ADCall _ _ _ _ _ _
    refine .mk _ _ (Is_spec g a hl ha) rfl ?_
    show ADCall _ _ _ _ _ _
    refine .mk _ _ (rIs10_spec g a hl hw) rfl ?_
    show ARet _ _ _
    refine ret_bo (x := isDirty g a == isDirty g a) ?_ ⟨rfl, rfl⟩
    simp
end Go.Abs
