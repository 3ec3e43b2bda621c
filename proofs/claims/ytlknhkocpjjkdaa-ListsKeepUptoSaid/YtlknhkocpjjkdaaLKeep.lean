/- For any two lists of cells, each of a million or less, any class, any number, any cell and any part the law ListsKeep returns true, and its arguments read behind the call as they did before. Condition: what the arguments read is of bulk at most 1048576. -/
import Derived.Test.YtlknhkocpjjkdaaLUpto
import Derived.Test.YtlknhkocpjjkdaaWKeep
import Derived.Deep.CondSized
set_option linter.all false
set_option linter.unusedVariables false
namespace Go.Proofs.Ytlknhkocpjjkdaa
open Go.ChangeShapes Go.WideShapes Go.ChangeAt Go.RowKit

abbrev lst : List (TypeId × (Abs.TV → Prop)) := [(25, isListsB), (25, isListsB), (3, isInt), (3, isInt), (3, isInt), (3, isInt), (3, isInt)]

theorem spec (ys : List Abs.TV) (h : Abs.Fits (lst.map (·.2)) ys) : Abs.Spec Abs.X 11 [] ys (Abs.Ret [] (.bo true)) := by
  obtain ⟨y0, r0, rfl, ⟨a0, rfl, b0⟩, h0⟩ := Abs.Fits.cons h
  obtain ⟨y1, r1, rfl, ⟨a1, rfl, b1⟩, h1⟩ := Abs.Fits.cons h0
  obtain ⟨y2, r2, rfl, ⟨a2, rfl, _⟩, h2⟩ := Abs.Fits.cons h1
  obtain ⟨y3, r3, rfl, ⟨a3, rfl, w3⟩, h3⟩ := Abs.Fits.cons h2
  obtain ⟨y4, r4, rfl, ⟨a4, rfl, _⟩, h4⟩ := Abs.Fits.cons h3
  obtain ⟨y5, r5, rfl, ⟨a5, rfl, _⟩, h5⟩ := Abs.Fits.cons h4
  obtain ⟨y6, r6, rfl, ⟨a6, rfl, _⟩, h6⟩ := Abs.Fits.cons h5
  obtain rfl := Abs.Fits.nil h6
  exact Abs.ListsKeep_spec a0 b0 a1 b1 a2 a3 w3 a4 a5 a6

set_option maxRecDepth 100000 in
theorem lifted (os : Os) (started : os.Started) (H : Type) (enc : TypeId × Value → H) (F : Stop.Interp) :
    ReturnsInHanded {} Try.checked os 11 .any ((Rows.OpenSpec.upto Rows.listsKeepSpec).pre6 enc Try.prog Try.f11 Rows.listsKeepUptoRow.domain false) (((Rows.OpenSpec.upto Rows.listsKeepSpec).at F).post enc Try.prog Try.f11 false true false false) := by
  refine returnsInHanded_of_cond_sized (C := Try.checked) (s := Rows.OpenSpec.upto Rows.listsKeepSpec) (k := Rows.uptoSmall) rfl own started (by kernel_rfl) Try.func11
    (OpenSpec.witness (enc := enc) (C := Try.checked) (s := Rows.OpenSpec.upto Rows.listsKeepSpec) (k := Rows.uptoSmall) rfl false ⟨#[], #[.agg #[.slice none 0 0, .slice none 0 0, .slice none 0 0], .agg #[.slice none 0 0, .slice none 0 0, .slice none 0 0], .int .i64 0, .int .i64 0, .int .i64 0, .int .i64 0, .int .i64 0], []⟩ 20 (by kernel_rfl) (by kernel_rfl) (by kernel_rfl)
      (x := ([.agg [.nil, .nil, .nil], .agg [.nil, .nil, .nil], .lit (.int .i64 0), .lit (.int .i64 0), .lit (.int .i64 0), .lit (.int .i64 0), .lit (.int .i64 0)], [], [])) (by kernel_rfl) rfl (by kernel_rfl)) ?_
  intro W base args ds gs before hval0 hW _ hk hsz0 _
  have hsz : (DataW.weightsEach Try.prog (Try.f11.params.toList ++ (Rows.OpenSpec.upto Rows.listsKeepSpec).bare.plain.varTypes Try.prog) (ds ++ gs)).all (· ≤ reachBytes) = true := hsz0
  clear hsz0
  have hval : ∀ (j : Nat) t v, Try.f11.params.toList[j]? = some t → args[j]? = some v → Value.okWide Try.prog W .any base t v := fun j t v h => hval0 j t v (by simpa using h)
  have hW' := hW
  obtain ⟨p, q, hA0, hV, rfl, _, _⟩ := hW
  have hA : DataW.TrodAll enc Try.prog W 0 (fun _ => true) true Try.f11.params.toList args.toList ds p := hA0
  rw [Try.params11] at hA hval hsz
  obtain ⟨rfl, rfl⟩ := trodVars_none hV
  simp only [List.append_nil] at hW'
  have hlt : ∀ x ∈ p, x.block < W.heap.size := fun x hx => by simpa using hW'.lt x hx
  refine (law_goesU (X := Abs.X) rfl lst (by
    intro x hx
    simp only [lst, List.mem_cons, List.not_mem_nil, or_false] at hx
    rcases hx with rfl | rfl | rfl | rfl | rfl | rfl | rfl
    · exact opnListsB
    · exact opnListsB
    · exact OpnU.of opnInt
    · exact OpnU.of opnInt
    · exact OpnU.of opnInt
    · exact OpnU.of opnInt
    · exact OpnU.of opnInt) spec laidOut (by decide +kernel) rfl rfl hval hA hsz hk hlt).mono ?_
  rintro e W' ⟨he, bel, hA'⟩
  subst he
  obtain ⟨v0, vs0, d0, ds0, p0, q0, hargs, rfl, rfl, g0, r0⟩ := trodAll_cons hA
  obtain ⟨v1, vs1, d1, ds1, p1, q1, rfl, rfl, rfl, g1, r1⟩ := trodAll_cons r0
  obtain ⟨v2, vs2, d2, ds2, p2, q2, rfl, rfl, rfl, g2, r2⟩ := trodAll_cons r1
  obtain ⟨v3, vs3, d3, ds3, p3, q3, rfl, rfl, rfl, g3, r3⟩ := trodAll_cons r2
  obtain ⟨v4, vs4, d4, ds4, p4, q4, rfl, rfl, rfl, g4, r4⟩ := trodAll_cons r3
  obtain ⟨v5, vs5, d5, ds5, p5, q5, rfl, rfl, rfl, g5, r5⟩ := trodAll_cons r4
  obtain ⟨v6, vs6, d6, ds6, p6, q6, rfl, rfl, rfl, g6, r6⟩ := trodAll_cons r5
  obtain ⟨rfl, rfl, rfl⟩ := trodAll_nil r6
  exact ⟨_, rfl, _, _, _, [], _, [], hW', trodAll_mk1 (shut_bool Try.underlying4 _), hA', rfl, bel.frame _, fun h => by cases h⟩

theorem over : Rows.listsKeepUptoRow.holds Try.pinned (Rows.OpenSpec.upto Rows.listsKeepSpec) :=
  OpenClaim.holds_of_cond 11 Try.f11 rfl rfl rfl rfl rfl rfl rfl ⟨rfl, rfl, rfl, rfl, rfl⟩ rfl rfl rfl rfl rfl (by kernel_rfl) Try.func11 (by kernel_rfl)
    (of_decide_eq_true (by kernel_rfl)) (by unfold Func.isWrapper; first | (rw [if_pos (by decide +kernel)]; kernel_rfl) | (rw [if_neg (by decide +kernel)]; exact ⟨rfl, rfl⟩))
    (fun os started H enc _ F => lifted os started H enc F)

theorem proved : Rows.ListsKeepUptoSaid := over
end Go.Proofs.Ytlknhkocpjjkdaa
