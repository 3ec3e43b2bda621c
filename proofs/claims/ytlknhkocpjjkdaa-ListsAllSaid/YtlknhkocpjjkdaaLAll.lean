/- For any lists of cells the law ListsAll returns true, and its argument reads behind the call as it did before. No conditions. -/
import Derived.Test.YtlknhkocpjjkdaaLBase
import Derived.Test.YtlknhkocpjjkdaaWLAll
set_option linter.all false
set_option linter.unusedVariables false
namespace Go.Proofs.Ytlknhkocpjjkdaa
open Go.ChangeShapes Go.WideShapes Go.ChangeAt Go.RowKit

abbrev lst : List (TypeId × (Abs.TV → Prop)) := [(44, isListsS)]

theorem spec (ys : List Abs.TV) (h : Abs.Fits (lst.map (·.2)) ys) : Abs.Spec Abs.X 7 [] ys (Abs.Ret [] (.bo true)) := by
  obtain ⟨y0, r0, rfl, ⟨a0, rfl⟩, h0⟩ := Abs.Fits.cons h
  obtain rfl := Abs.Fits.nil h0
  exact Abs.ListsAll_spec a0

set_option maxRecDepth 100000 in
theorem lifted (os : Os) (started : os.Started) (H : Type) (enc : TypeId × Value → H) :
    ReturnsInHanded {} Try.checked os 7 .any (Rows.listsAllSpec.pre6 enc Try.prog Try.f7 Rows.listsAllRow.domain false) (Rows.listsAllSpec.post enc Try.prog Try.f7 false true false false) := by
  refine returnsInHanded_of_change_sized (C := Try.checked) own started (by kernel_rfl) Try.func7
    (ChangeSpec.witness6 (enc := enc) (C := Try.checked) false ⟨#[], #[.slice none 0 0], []⟩ 20 (by kernel_rfl) (by kernel_rfl) (by kernel_rfl) (by kernel_rfl)) ?_
  intro W base args ds gs before hval0 hW _ hsz0 _
  have hsz : (DataW.weightsEach Try.prog (Try.f7.params.toList ++ Rows.listsAllSpec.plain.varTypes Try.prog) (ds ++ gs)).all (· ≤ reachBytes) = true := hsz0
  clear hsz0
  have hval : ∀ (j : Nat) t v, Try.f7.params.toList[j]? = some t → args[j]? = some v → Value.okWide Try.prog W .any base t v := fun j t v h => hval0 j t v (by simpa using h)
  have hW' := hW
  obtain ⟨p, q, hA0, hV, rfl, _, _⟩ := hW
  have hA : DataW.TrodAll enc Try.prog W 0 (fun _ => true) true Try.f7.params.toList args.toList ds p := hA0
  rw [Try.params7] at hA hval hsz
  obtain ⟨rfl, rfl⟩ := trodVars_none hV
  simp only [List.append_nil] at hW'
  have hlt : ∀ x ∈ p, x.block < W.heap.size := fun x hx => by simpa using hW'.lt x hx
  refine (Abs.law_goes (X := Abs.X) rfl lst (by
    intro x hx
    simp only [lst, List.mem_cons, List.not_mem_nil, or_false] at hx
    rcases hx with rfl
    · exact opnListsS) spec laidOut (by decide +kernel) rfl rfl hval hA hsz hlt).mono ?_
  rintro e W' ⟨he, bel, hA'⟩
  subst he
  obtain ⟨v0, vs0, d0, ds0, p0, q0, hargs, rfl, rfl, g0, r0⟩ := trodAll_cons hA
  obtain ⟨rfl, rfl, rfl⟩ := trodAll_nil r0
  exact ⟨_, rfl, _, _, _, [], _, [], hW', trodAll_mk1 (shut_bool Try.underlying4 _), hA', rfl, bel.frame _, fun h => by cases h⟩

theorem over : Rows.listsAllRow.holds Try.pinned (OpenSpec.ofChange Rows.listsAllSpec) :=
  OpenClaim.holds_of_wide 7 Try.f7 rfl rfl rfl rfl rfl rfl rfl ⟨rfl, rfl, rfl, rfl, rfl⟩ rfl rfl rfl rfl rfl (by kernel_rfl) Try.func7 (by kernel_rfl)
    (of_decide_eq_true (by kernel_rfl)) (by unfold Func.isWrapper; first | (rw [if_pos (by decide +kernel)]; kernel_rfl) | (rw [if_neg (by decide +kernel)]; exact ⟨rfl, rfl⟩))
    (fun os started H enc _ => lifted os started H enc)

theorem proved : Rows.ListsAllSaid := over
end Go.Proofs.Ytlknhkocpjjkdaa
