/- For every heap, caches and whole numbers the law CardsWords returns true, and its arguments read behind the call as they did before. Condition: what the arguments read is of bulk at most 1048576. What class.words reads as is tied to the program's text. -/
import Derived.Test.YtkalcaokmadpjaaDoorLUptoC
import Derived.Test.YtkalcaokmadpjaaDoorLFacts
import Derived.Test.YtkalcaokmadpjaaDoorWCardsWords
set_option linter.all false
set_option linter.unusedVariables false
namespace Go.Proofs.YtkalcaokmadpjaaDoor
open Go.ChangeShapes Go.WideShapes Go.ChangeAt Go.RowKit

abbrev lst : List (TypeId × (Abs.TV → Prop)) := [(28, isHeap), (39, isListsSB), (3, isInt), (3, isInt)]

theorem spec (ys : List Abs.TV) (h : Abs.Fits (lst.map (·.2)) ys) : Abs.Spec Abs.X 11 [] ys (Abs.Ret [] (.bo true)) := by
  obtain ⟨y0, r0, rfl, ⟨a0, rfl, _⟩, h0⟩ := Abs.Fits.cons h
  obtain ⟨y1, r1, rfl, ⟨a1, rfl, b1⟩, h1⟩ := Abs.Fits.cons h0
  obtain ⟨y2, r2, rfl, ⟨a2, rfl, w2⟩, h2⟩ := Abs.Fits.cons h1
  obtain ⟨y3, r3, rfl, ⟨a3, rfl, _⟩, h3⟩ := Abs.Fits.cons h2
  obtain rfl := Abs.Fits.nil h3
  exact Abs.CardsWords_spec a0 a1 b1 a2 (Abs.I64.of w2).2 a3

set_option maxRecDepth 100000 in
theorem witness (os : Os) (H : Type) (enc : TypeId × Value → H) : ∃ (w : World) (tape : Tape) (i : Input), w.os = os ∧ (w.forCall tape i).Shaped Tryd.checked.prog ∧ i.vars = [] ∧ Input.okWide Tryd.checked.prog (w.forCall tape i) .any w.heap.size 11 i ∧
      ((Rows.OpenSpec.upto Rows.cardsWordsSpec).preRow enc Tryd.checked.prog Tryd.f11 Rows.cardsWordsUptoRow.domain false laidW (w.forCall tape i).memory i.args) ∧ ({} : Assume).holds Tryd.checked.prog (lone (Frame.enter Tryd.checked.prog 11 i.args .normal) [] (w.forCall tape i)) := by
  obtain ⟨w, tape, i, h1, h2, h3, h4, ⟨⟨⟨ds, gs, before, h5, h6⟩, h7⟩, h8⟩, h9⟩ := ChangeSpec.witness_shaped (enc := enc) (C := Tryd.checked) (os := os) (f := 11) (fn := Tryd.f11) (s := Rows.cardsWordsSpec) (conds := Rows.cardsWordsUptoRow.domain) (apart := false)
      (X := fun w args => laidMetH Tryd.prog laidW w ∧ ∃ x, DataW.whole enc Tryd.prog w Tryd.f11.params.toList Rows.cardsWordsSpec.vars false args.toList 20 = some x ∧ Rows.uptoSmall H (x.1 ++ x.2.1) = true) false (World.doorLaid Tryd.prog 400 os) #[.agg #[.slice none 0 0, .slice none 0 0, .slice none 0 0, .slice none 0 0, .slice none 0 0, .slice none 0 0], .slice none 0 0, .int .i64 0, .int .i64 0] 20 rfl (World.shaped_of_RefB (by kernel_rfl) (by kernel_rfl)) (by kernel_rfl) (by kernel_rfl) (by kernel_rfl)
      ⟨door_met os _, ([.agg [.nil, .nil, .agg [.nil, .nil, .nil], .nil], .nil, .lit (.int .i64 0), .lit (.int .i64 0)], [], []), by kernel_rfl, by kernel_rfl⟩
  refine ⟨w, tape, i, h1, h2, h3, h4, ⟨⟨(OpenSpec.pre_some (k := Rows.uptoSmall) rfl _ _ _ _).2 ⟨ds, gs, before, h5, h6, ?_⟩, h7.1⟩, h8⟩, h9⟩
  obtain ⟨x, hx, hk⟩ := h7.2
  obtain ⟨rfl, rfl, _⟩ := h5.unique (DataW.Whole_of_whole hx)
  exact hk

set_option maxRecDepth 100000 in
theorem lifted (os : Os) (started : os.Started) (H : Type) (enc : TypeId × Value → H) (F : Stop.Interp) :
    ReturnsInHanded {} Tryd.checked os 11 .any ((Rows.OpenSpec.upto Rows.cardsWordsSpec).preRow enc Tryd.prog Tryd.f11 Rows.cardsWordsUptoRow.domain false laidW) (((Rows.OpenSpec.upto Rows.cardsWordsSpec).at F).post enc Tryd.prog Tryd.f11 false true false false) := by
  refine returnsInHanded_of_row (C := Tryd.checked) (s := Rows.OpenSpec.upto Rows.cardsWordsSpec) own started (by kernel_rfl) Tryd.func11 (witness os H enc) ?_
  intro W base args ds gs before hval0 hW _ hk0 hsz0 hL _ _
  have hk : Rows.uptoSmall H (ds ++ gs) = true := hk0 _ rfl
  have hsz : (DataW.weightsEach Tryd.prog (Tryd.f11.params.toList ++ (Rows.OpenSpec.upto Rows.cardsWordsSpec).bare.plain.varTypes Tryd.prog) (ds ++ gs)).all (· ≤ reachBytes) = true := hsz0
  clear hsz0
  have hval : ∀ (j : Nat) t v, Tryd.f11.params.toList[j]? = some t → args[j]? = some v → Value.okWide Tryd.prog W .any base t v := fun j t v h => hval0 j t v (by simpa using h)
  have hW' := hW
  obtain ⟨p, q, hA0, hV, rfl, _, _⟩ := hW
  have hA : DataW.TrodAll enc Tryd.prog W 0 (fun _ => true) true Tryd.f11.params.toList args.toList ds p := hA0
  rw [Tryd.params11] at hA hval hsz
  obtain ⟨rfl, rfl⟩ := trodVars_none hV
  simp only [List.append_nil] at hW'
  have hlt : ∀ x ∈ p, x.block < W.heap.size := fun x hx => by simpa using hW'.lt x hx
  refine (law_goesUg (X := Abs.X) lst (by
    intro x hx
    simp only [lst, List.mem_cons, List.not_mem_nil, or_false] at hx
    rcases hx with rfl | rfl | rfl | rfl
    · exact OpnU.of opnHeap
    · exact opnListsSB
    · exact OpnU.of opnInt
    · exact OpnU.of opnInt) spec laidOut (by decide +kernel) (of_laid hL) rfl rfl hval hA hsz hk hlt).mono ?_
  rintro e W' ⟨he, bel, hA'⟩
  subst he
  obtain ⟨v0, vs0, d0, ds0, p0, q0, hargs, rfl, rfl, g0, r0⟩ := trodAll_cons hA
  obtain ⟨v1, vs1, d1, ds1, p1, q1, rfl, rfl, rfl, g1, r1⟩ := trodAll_cons r0
  obtain ⟨v2, vs2, d2, ds2, p2, q2, rfl, rfl, rfl, g2, r2⟩ := trodAll_cons r1
  obtain ⟨v3, vs3, d3, ds3, p3, q3, rfl, rfl, rfl, g3, r3⟩ := trodAll_cons r2
  obtain ⟨rfl, rfl, rfl⟩ := trodAll_nil r3
  exact ⟨_, rfl, _, _, _, [], _, [], hW', trodAll_mk1 (shut_bool Tryd.underlying4 _), hA', rfl, bel.frame _, fun h => by cases h⟩

theorem closed : joinedFacts Tryd.pinned.checked.prog 11 Tryd.f11 (Rows.OpenSpec.upto Rows.cardsWordsSpec).bare Rows.cardsWordsUptoRow = true := by
  unfold joinedFacts
  exact and_mk (and_mk (and_mk (and_mk (and_mk (and_mk (and_mk (by kernel_rfl) pEnter) pLifts) pMake) (by kernel_rfl)) (by kernel_rfl)) (by kernel_rfl)) (by kernel_rfl)

theorem over : Rows.cardsWordsUptoRow.holds Tryd.pinned (Rows.OpenSpec.upto Rows.cardsWordsSpec) :=
  OpenClaim.holds_of_cond 11 Tryd.f11 rfl rfl rfl rfl rfl rfl rfl ⟨rfl, rfl, rfl, rfl, rfl⟩ rfl rfl rfl rfl rfl (by kernel_rfl) Tryd.func11 (closed)
    (of_decide_eq_true (by kernel_rfl)) (by unfold Func.isWrapper; first | (rw [if_pos (by decide +kernel)]; kernel_rfl) | (rw [if_neg (by decide +kernel)]; exact ⟨rfl, rfl⟩))
    (fun os started H enc _ F => by rw [OpenClaim.pre_eq_preRow]; exact lifted os started H enc F)

theorem proved : Rows.CardsWordsUptoCardSaid :=
  Claim7.holds_tied_plain_at .later [] [.widerDeep] true Rows.cardsWordsUptoCard.stood.harness false
    over (fun _ h => by cases h) (by kernel_rfl) (fun _ h => by cases h) cardsWordsUpto_row_tie rfl ⟨rfl, rfl⟩ pMain rfl
    (fun f fn hf hfn => by
      obtain rfl : f = 11 := Option.some.inj ((show Tryd.prog.funcNamed "ragpicker/ragpickerlaw10.CardsWords" = some 11 by kernel_rfl).symm.trans hf) |>.symm
      obtain rfl : fn = Tryd.f11 := (Option.some.inj (Tryd.func11.symm.trans hfn)).symm
      exact ⟨pLooks, fun j t ht => by
        rw [Tryd.params11] at ht
        have hm : t ∈ [28, 39, 3] := by simpa using Array.mem_of_getElem? ht
        have hall : ([28, 39, 3].all fun u => !Tryd.prog.wantsStandIn u) = true := by kernel_rfl
        exact (show Tryd.prog.wantsStandIn t = false by simpa using List.all_eq_true.1 hall t hm)⟩)
    (by kernel_rfl)
end Go.Proofs.YtkalcaokmadpjaaDoor
