/- For every thread and every integer the law RegsSame returns true, and its arguments read behind the call as they did before. No conditions. -/
import Derived.Test.YtlknhkocpjjkdaaLBase
import Derived.Test.YtlknhkocpjjkdaaWSame2
set_option linter.all false
set_option linter.unusedVariables false
namespace Go.Proofs.Ytlknhkocpjjkdaa
open Go.ChangeShapes Go.WideShapes Go.ChangeAt Go.RowKit

abbrev lst : List (TypeId × (Abs.TV → Prop)) := [(28, isThread), (3, isInt)]

theorem spec (ys : List Abs.TV) (h : Abs.Fits (lst.map (·.2)) ys) : Abs.Spec Abs.X 5 [] ys (Abs.Ret [] (.bo true)) := by
  obtain ⟨y0, r0, rfl, ⟨a0, rfl⟩, h0⟩ := Abs.Fits.cons h
  obtain ⟨y1, r1, rfl, ⟨a1, rfl, _⟩, h1⟩ := Abs.Fits.cons h0
  obtain rfl := Abs.Fits.nil h1
  exact Abs.RegsSame_spec a0 a1

set_option maxRecDepth 100000 in
theorem lifted (os : Os) (started : os.Started) (H : Type) (enc : TypeId × Value → H) :
    ReturnsInHanded {} Try.checked os 5 .any (Rows.regsSameSpec.pre6 enc Try.prog Try.f5 Rows.regsSameRow.domain false) (Rows.regsSameSpec.post enc Try.prog Try.f5 false true false false) := by
  refine returnsInHanded_of_change_sized (C := Try.checked) own started (by kernel_rfl) Try.func5
    (ChangeSpec.witness6 (enc := enc) (C := Try.checked) false ⟨#[], #[.agg #[.bool false, .int .i64 0, .int .i64 0, .int .i64 0, .int .i64 0, .slice none 0 0, .slice none 0 0, .slice none 0 0, .int .i64 0, .int .i64 0, .int .i64 0, .slice none 0 0, .int .i64 0, .int .i64 0, .int .i64 0], .int .i64 0], []⟩ 20 (by kernel_rfl) (by kernel_rfl) (by kernel_rfl) (by kernel_rfl)) ?_
  intro W base args ds gs before hval0 hW _ hsz0 _
  have hsz : (DataW.weightsEach Try.prog (Try.f5.params.toList ++ Rows.regsSameSpec.plain.varTypes Try.prog) (ds ++ gs)).all (· ≤ reachBytes) = true := hsz0
  clear hsz0
  have hval : ∀ (j : Nat) t v, Try.f5.params.toList[j]? = some t → args[j]? = some v → Value.okWide Try.prog W .any base t v := fun j t v h => hval0 j t v (by simpa using h)
  have hW' := hW
  obtain ⟨p, q, hA0, hV, rfl, _, _⟩ := hW
  have hA : DataW.TrodAll enc Try.prog W 0 (fun _ => true) true Try.f5.params.toList args.toList ds p := hA0
  rw [Try.params5] at hA hval hsz
  obtain ⟨rfl, rfl⟩ := trodVars_none hV
  simp only [List.append_nil] at hW'
  have hlt : ∀ x ∈ p, x.block < W.heap.size := fun x hx => by simpa using hW'.lt x hx
  refine (Abs.law_goes (X := Abs.X) rfl lst (by
    intro x hx
    simp only [lst, List.mem_cons, List.not_mem_nil, or_false] at hx
    rcases hx with rfl | rfl
    · exact opnThread
    · exact opnInt) spec laidOut (by decide +kernel) rfl rfl hval hA hsz hlt).mono ?_
  rintro e W' ⟨he, bel, hA'⟩
  subst he
  obtain ⟨v0, vs0, d0, ds0, p0, q0, hargs, rfl, rfl, g0, r0⟩ := trodAll_cons hA
  obtain ⟨v1, vs1, d1, ds1, p1, q1, rfl, rfl, rfl, g1, r1⟩ := trodAll_cons r0
  obtain ⟨rfl, rfl, rfl⟩ := trodAll_nil r1
  exact ⟨_, rfl, _, _, _, [], _, [], hW', trodAll_mk1 (shut_bool Try.underlying4 _), hA', rfl, bel.frame _, fun h => by cases h⟩

theorem over : Rows.regsSameRow.holds Try.pinned (OpenSpec.ofChange Rows.regsSameSpec) :=
  OpenClaim.holds_of_wide 5 Try.f5 rfl rfl rfl rfl rfl rfl rfl ⟨rfl, rfl, rfl, rfl, rfl⟩ rfl rfl rfl rfl rfl (by kernel_rfl) Try.func5 (by kernel_rfl)
    (of_decide_eq_true (by kernel_rfl)) (by unfold Func.isWrapper; first | (rw [if_pos (by decide +kernel)]; kernel_rfl) | (rw [if_neg (by decide +kernel)]; exact ⟨rfl, rfl⟩))
    (fun os started H enc _ => lifted os started H enc)

theorem proved : Rows.RegsSameSaid := over
end Go.Proofs.Ytlknhkocpjjkdaa
