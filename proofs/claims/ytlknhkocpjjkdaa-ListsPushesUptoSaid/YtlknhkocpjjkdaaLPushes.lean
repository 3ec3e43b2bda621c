/- For any list of cells, any class and any cells the law ListsPushes returns true, and its arguments read behind the call as they did before. Condition: what the arguments read is of bulk at most 1048576. -/
import Derived.Test.YtlknhkocpjjkdaaLUpto
import Derived.Test.YtlknhkocpjjkdaaWPushes
import Derived.Deep.CondSized
set_option linter.all false
set_option linter.unusedVariables false
namespace Go.Proofs.Ytlknhkocpjjkdaa
open Go.ChangeShapes Go.WideShapes Go.ChangeAt Go.RowKit

abbrev lst : List (TypeId × (Abs.TV → Prop)) := [(25, isListsB), (3, isInt), (23, isIntsB)]

theorem spec (ys : List Abs.TV) (h : Abs.Fits (lst.map (·.2)) ys) : Abs.Spec Abs.X 9 [] ys (Abs.Ret [] (.bo true)) := by
  obtain ⟨y0, r0, rfl, ⟨a0, rfl, b0⟩, h0⟩ := Abs.Fits.cons h
  obtain ⟨y1, r1, rfl, ⟨a1, rfl, _⟩, h1⟩ := Abs.Fits.cons h0
  obtain ⟨y2, r2, rfl, ⟨a2, rfl, b2⟩, h2⟩ := Abs.Fits.cons h1
  obtain rfl := Abs.Fits.nil h2
  exact Abs.ListsPushes_spec a0 b0 a1 a2 b2

set_option maxRecDepth 100000 in
theorem lifted (os : Os) (started : os.Started) (H : Type) (enc : TypeId × Value → H) (F : Stop.Interp) :
    ReturnsInHanded {} Try.checked os 9 .any ((Rows.OpenSpec.upto Rows.listsPushesSpec).pre6 enc Try.prog Try.f9 Rows.listsPushesUptoRow.domain false) (((Rows.OpenSpec.upto Rows.listsPushesSpec).at F).post enc Try.prog Try.f9 false true false false) := by
  refine returnsInHanded_of_cond_sized (C := Try.checked) (s := Rows.OpenSpec.upto Rows.listsPushesSpec) (k := Rows.uptoSmall) rfl own started (by kernel_rfl) Try.func9
    (OpenSpec.witness (enc := enc) (C := Try.checked) (s := Rows.OpenSpec.upto Rows.listsPushesSpec) (k := Rows.uptoSmall) rfl false ⟨#[], #[.agg #[.slice none 0 0, .slice none 0 0, .slice none 0 0], .int .i64 0, .slice none 0 0], []⟩ 20 (by kernel_rfl) (by kernel_rfl) (by kernel_rfl)
      (x := ([.agg [.nil, .nil, .nil], .lit (.int .i64 0), .nil], [], [])) (by kernel_rfl) rfl (by kernel_rfl)) ?_
  intro W base args ds gs before hval0 hW _ hk hsz0 _
  have hsz : (DataW.weightsEach Try.prog (Try.f9.params.toList ++ (Rows.OpenSpec.upto Rows.listsPushesSpec).bare.plain.varTypes Try.prog) (ds ++ gs)).all (· ≤ reachBytes) = true := hsz0
  clear hsz0
  have hval : ∀ (j : Nat) t v, Try.f9.params.toList[j]? = some t → args[j]? = some v → Value.okWide Try.prog W .any base t v := fun j t v h => hval0 j t v (by simpa using h)
  have hW' := hW
  obtain ⟨p, q, hA0, hV, rfl, _, _⟩ := hW
  have hA : DataW.TrodAll enc Try.prog W 0 (fun _ => true) true Try.f9.params.toList args.toList ds p := hA0
  rw [Try.params9] at hA hval hsz
  obtain ⟨rfl, rfl⟩ := trodVars_none hV
  simp only [List.append_nil] at hW'
  have hlt : ∀ x ∈ p, x.block < W.heap.size := fun x hx => by simpa using hW'.lt x hx
  refine (law_goesU (X := Abs.X) rfl lst (by
    intro x hx
    simp only [lst, List.mem_cons, List.not_mem_nil, or_false] at hx
    rcases hx with rfl | rfl | rfl
    · exact opnListsB
    · exact OpnU.of opnInt
    · exact opnIntsB) spec laidOut (by decide +kernel) rfl rfl hval hA hsz hk hlt).mono ?_
  rintro e W' ⟨he, bel, hA'⟩
  subst he
  obtain ⟨v0, vs0, d0, ds0, p0, q0, hargs, rfl, rfl, g0, r0⟩ := trodAll_cons hA
  obtain ⟨v1, vs1, d1, ds1, p1, q1, rfl, rfl, rfl, g1, r1⟩ := trodAll_cons r0
  obtain ⟨v2, vs2, d2, ds2, p2, q2, rfl, rfl, rfl, g2, r2⟩ := trodAll_cons r1
  obtain ⟨rfl, rfl, rfl⟩ := trodAll_nil r2
  exact ⟨_, rfl, _, _, _, [], _, [], hW', trodAll_mk1 (shut_bool Try.underlying4 _), hA', rfl, bel.frame _, fun h => by cases h⟩

theorem over : Rows.listsPushesUptoRow.holds Try.pinned (Rows.OpenSpec.upto Rows.listsPushesSpec) :=
  OpenClaim.holds_of_cond 9 Try.f9 rfl rfl rfl rfl rfl rfl rfl ⟨rfl, rfl, rfl, rfl, rfl⟩ rfl rfl rfl rfl rfl (by kernel_rfl) Try.func9 (by kernel_rfl)
    (of_decide_eq_true (by kernel_rfl)) (by unfold Func.isWrapper; first | (rw [if_pos (by decide +kernel)]; kernel_rfl) | (rw [if_neg (by decide +kernel)]; exact ⟨rfl, rfl⟩))
    (fun os started H enc _ F => lifted os started H enc F)

theorem proved : Rows.ListsPushesUptoSaid := over
end Go.Proofs.Ytlknhkocpjjkdaa
