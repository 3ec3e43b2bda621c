/- Walks: with fewer caches a heap may be, too. -/
import Derived.Test.YtkalcaokmadpjaaDoorWHeapK
import Derived.Test.YtkalcaokmadpjaaDoorWAwake7
set_option linter.all false
set_option linter.unusedVariables false
set_option linter.unusedSimpArgs false
namespace Go.Abs
open Go.Proofs Go.Proofs.YtkalcaokmadpjaaDoor
set_option maxRecDepth 8000

theorem flats_upto {g : Hp} {cs : List Lists} (hf : fewH g = true) (hb : (flats cs).length ≤ 1048576) : (flats (lsts g cs)).length ≤ most := by
  have h := of_decide_eq_true hf
  have e : (flats (g.free :: cs)).length = g.free.flat.length + (flats cs).length := by unfold flats; rw [List.flatMap_cons, List.length_append]
  have e2 : g.free.flat.length = g.free.l0.length + g.free.l1.length + g.free.l2.length := by simp [Lists.flat]; omega
  show (flats (g.free :: cs)).length ≤ _
  rw [e, e2]
  unfold most
  omega

theorem flat_nil (l : Lists) : decide (l.flat = []) = (bif (bif (l.l0.length : Int) == 0 then (l.l1.length : Int) == 0 else false) then (l.l2.length : Int) == 0 else false) := by
  obtain ⟨a, b, c⟩ := l
  unfold Lists.flat
  cases a <;> cases b <;> cases c <;> simp <;> omega

theorem HeapLess_spec (g : Hp) (cs : List Lists) (hbk : (flats cs).length ≤ 1048576) : Spec X 8 [] [g.tv, .c (.d (.sl .lists cs))] (Ret [] (.bo true)) := by
  refine spec_go X_ok Tryd.f8 (by kernel_rfl) (by kernel_rfl) (by kernel_rfl) fun hb hH => ⟨rfl, ?_⟩
  show ACall _ _ _ _ _ _
  refine call_ret (awake7_spec) rfl ?_
  show ACall _ _ _ _ _ _
  refine call_ret (Few_spec g) rfl ?_
  by_cases hc : fewH g = true ∧ 1 ≤ cs.length ∧ cs.length ≤ 4
  · obtain ⟨hf, h1, h4⟩ := hc
    have hl := few_light hf
    have hfl := flats_upto hf hbk
    have hcm : cs.length < most := by unfold most; omega
    rw [hf]
    show AIf ((bif (bif (bif !true then true else !true) then true else decide ((cs.length : Int) < 1)) then true else decide ((cs.length : Int) > 4)) = false ∧ True) _ _
    refine ⟨fun _ => ?_, fun h => absurd ⟨by rw [decide_eq_false (show ¬ (cs.length : Int) < 1 by omega), decide_eq_false (show ¬ (cs.length : Int) > 4 by omega)]; rfl, trivial⟩ h⟩
    show ACall _ _ _ _ _ _
    refine call_ret (hHMay_spec g cs hfl hcm) rfl ?_
    cases hm : mayH g cs with
    | false =>
      show ABr _ _ _
      refine ⟨fun _ => ?_, fun h => absurd h (by simp)⟩
      show ARet _ _ _
      exact ret_d rfl ⟨rfl, rfl⟩
    | true =>
      show ABr _ _ _
      refine ⟨fun h => absurd h (by simp), fun _ => ?_⟩
      match cs, h1, h4, hfl, hcm, hm with
      | [c1], _, _, hfl, hcm, hm =>
        have hml := may_less (less := []) (last := c1) hm
        have hfl' : (flats (lsts g [])).length ≤ most := by
          have e : flats (lsts g ([] ++ [c1])) = flats (lsts g []) ++ flats [c1] := by
            show flats (g.free :: ([] ++ [c1])) = flats (g.free :: []) ++ _
            rw [← List.cons_append, flats_append]
          have hfl : (flats (lsts g ([] ++ [c1]))).length ≤ most := hfl
          rw [e, List.length_append] at hfl
          omega
        show AOb _ _
        refine ⟨by exact of_decide_eq_true rfl, ?_⟩
        show AOb _ _
        refine ⟨by decide, ?_⟩
        show AOb _ _
        refine ⟨by simp, ?_⟩
        show AOb _ _
        refine ⟨by simp, ?_⟩
        show AOb _ _
        refine ⟨by exact of_decide_eq_true rfl, ?_⟩
        have hcm' : ([] : List Lists).length < most := by unfold most; simp
        show ACall _ _ _ _ _ _
        refine call_ret (Whole_spec g [c1] hfl hcm) rfl ?_
        show ACall _ _ _ _ _ _
        refine call_ret (hHMay_spec g [] hfl' hcm') rfl ?_
        rw [hml]
        cases hw : wholeH g [c1] with
        | false =>
          show AIf _ _ _
          refine ⟨fun h => absurd h.1 (by decide), fun _ => ?_⟩
          show AOb _ _
          refine ⟨by simp, ?_⟩
          show ARet _ _ _
          exact ret_d rfl ⟨rfl, rfl⟩
        | true =>
          have hwl := whole_less (less := []) (last := c1) hw
          show AIf _ _ _
          refine ⟨fun _ => ?_, fun h => absurd ⟨rfl, rfl, trivial⟩ h⟩
          show ACall _ _ _ _ _ _
          refine call_ret (Whole_spec g [] hfl' hcm') rfl ?_
          rw [hwl, flat_nil]
          show ARet _ _ _
          refine ret_bo (x := bif true then (bif !true then true else ((bif (bif ((c1).l0.length : Int) == 0 then ((c1).l1.length : Int) == 0 else false) then ((c1).l2.length : Int) == 0 else false) == (bif (bif ((c1).l0.length : Int) == 0 then ((c1).l1.length : Int) == 0 else false) then ((c1).l2.length : Int) == 0 else false))) else false) ?_ ⟨rfl, rfl⟩
          simp
      | [c1, c2], _, _, hfl, hcm, hm =>
        have hml := may_less (less := [c1]) (last := c2) hm
        have hfl' : (flats (lsts g [c1])).length ≤ most := by
          have e : flats (lsts g ([c1] ++ [c2])) = flats (lsts g [c1]) ++ flats [c2] := by
            show flats (g.free :: ([c1] ++ [c2])) = flats (g.free :: [c1]) ++ _
            rw [← List.cons_append, flats_append]
          have hfl : (flats (lsts g ([c1] ++ [c2]))).length ≤ most := hfl
          rw [e, List.length_append] at hfl
          omega
        show AOb _ _
        refine ⟨by exact of_decide_eq_true rfl, ?_⟩
        show AOb _ _
        refine ⟨by decide, ?_⟩
        show AOb _ _
        refine ⟨by simp, ?_⟩
        show AOb _ _
        refine ⟨by simp, ?_⟩
        show AOb _ _
        refine ⟨by exact of_decide_eq_true rfl, ?_⟩
        have hcm' : ([c1] : List Lists).length < most := by unfold most; simp
        show ACall _ _ _ _ _ _
        refine call_ret (Whole_spec g [c1,c2] hfl hcm) rfl ?_
        show ACall _ _ _ _ _ _
        refine call_ret (hHMay_spec g [c1] hfl' hcm') rfl ?_
        rw [hml]
        cases hw : wholeH g [c1,c2] with
        | false =>
          show AIf _ _ _
          refine ⟨fun h => absurd h.1 (by decide), fun _ => ?_⟩
          show AOb _ _
          refine ⟨by simp, ?_⟩
          show ARet _ _ _
          exact ret_d rfl ⟨rfl, rfl⟩
        | true =>
          have hwl := whole_less (less := [c1]) (last := c2) hw
          show AIf _ _ _
          refine ⟨fun _ => ?_, fun h => absurd ⟨rfl, rfl, trivial⟩ h⟩
          show ACall _ _ _ _ _ _
          refine call_ret (Whole_spec g [c1] hfl' hcm') rfl ?_
          rw [hwl, flat_nil]
          show ARet _ _ _
          refine ret_bo (x := bif true then (bif !true then true else ((bif (bif ((c2).l0.length : Int) == 0 then ((c2).l1.length : Int) == 0 else false) then ((c2).l2.length : Int) == 0 else false) == (bif (bif ((c2).l0.length : Int) == 0 then ((c2).l1.length : Int) == 0 else false) then ((c2).l2.length : Int) == 0 else false))) else false) ?_ ⟨rfl, rfl⟩
          simp
      | [c1, c2, c3], _, _, hfl, hcm, hm =>
        have hml := may_less (less := [c1,c2]) (last := c3) hm
        have hfl' : (flats (lsts g [c1,c2])).length ≤ most := by
          have e : flats (lsts g ([c1,c2] ++ [c3])) = flats (lsts g [c1,c2]) ++ flats [c3] := by
            show flats (g.free :: ([c1,c2] ++ [c3])) = flats (g.free :: [c1,c2]) ++ _
            rw [← List.cons_append, flats_append]
          have hfl : (flats (lsts g ([c1,c2] ++ [c3]))).length ≤ most := hfl
          rw [e, List.length_append] at hfl
          omega
        show AOb _ _
        refine ⟨by exact of_decide_eq_true rfl, ?_⟩
        show AOb _ _
        refine ⟨by decide, ?_⟩
        show AOb _ _
        refine ⟨by simp, ?_⟩
        show AOb _ _
        refine ⟨by simp, ?_⟩
        show AOb _ _
        refine ⟨by exact of_decide_eq_true rfl, ?_⟩
        have hcm' : ([c1,c2] : List Lists).length < most := by unfold most; simp
        show ACall _ _ _ _ _ _
        refine call_ret (Whole_spec g [c1,c2,c3] hfl hcm) rfl ?_
        show ACall _ _ _ _ _ _
        refine call_ret (hHMay_spec g [c1,c2] hfl' hcm') rfl ?_
        rw [hml]
        cases hw : wholeH g [c1,c2,c3] with
        | false =>
          show AIf _ _ _
          refine ⟨fun h => absurd h.1 (by decide), fun _ => ?_⟩
          show AOb _ _
          refine ⟨by simp, ?_⟩
          show ARet _ _ _
          exact ret_d rfl ⟨rfl, rfl⟩
        | true =>
          have hwl := whole_less (less := [c1,c2]) (last := c3) hw
          show AIf _ _ _
          refine ⟨fun _ => ?_, fun h => absurd ⟨rfl, rfl, trivial⟩ h⟩
          show ACall _ _ _ _ _ _
          refine call_ret (Whole_spec g [c1,c2] hfl' hcm') rfl ?_
          rw [hwl, flat_nil]
          show ARet _ _ _
          refine ret_bo (x := bif true then (bif !true then true else ((bif (bif ((c3).l0.length : Int) == 0 then ((c3).l1.length : Int) == 0 else false) then ((c3).l2.length : Int) == 0 else false) == (bif (bif ((c3).l0.length : Int) == 0 then ((c3).l1.length : Int) == 0 else false) then ((c3).l2.length : Int) == 0 else false))) else false) ?_ ⟨rfl, rfl⟩
          simp
      | [c1, c2, c3, c4], _, _, hfl, hcm, hm =>
        have hml := may_less (less := [c1,c2,c3]) (last := c4) hm
        have hfl' : (flats (lsts g [c1,c2,c3])).length ≤ most := by
          have e : flats (lsts g ([c1,c2,c3] ++ [c4])) = flats (lsts g [c1,c2,c3]) ++ flats [c4] := by
            show flats (g.free :: ([c1,c2,c3] ++ [c4])) = flats (g.free :: [c1,c2,c3]) ++ _
            rw [← List.cons_append, flats_append]
          have hfl : (flats (lsts g ([c1,c2,c3] ++ [c4]))).length ≤ most := hfl
          rw [e, List.length_append] at hfl
          omega
        show AOb _ _
        refine ⟨by exact of_decide_eq_true rfl, ?_⟩
        show AOb _ _
        refine ⟨by decide, ?_⟩
        show AOb _ _
        refine ⟨by simp, ?_⟩
        show AOb _ _
        refine ⟨by simp, ?_⟩
        show AOb _ _
        refine ⟨by exact of_decide_eq_true rfl, ?_⟩
        have hcm' : ([c1,c2,c3] : List Lists).length < most := by unfold most; simp
        show ACall _ _ _ _ _ _
        refine call_ret (Whole_spec g [c1,c2,c3,c4] hfl hcm) rfl ?_
        show ACall _ _ _ _ _ _
        refine call_ret (hHMay_spec g [c1,c2,c3] hfl' hcm') rfl ?_
        rw [hml]
        cases hw : wholeH g [c1,c2,c3,c4] with
        | false =>
          show AIf _ _ _
          refine ⟨fun h => absurd h.1 (by decide), fun _ => ?_⟩
          show AOb _ _
          refine ⟨by simp, ?_⟩
          show ARet _ _ _
          exact ret_d rfl ⟨rfl, rfl⟩
        | true =>
          have hwl := whole_less (less := [c1,c2,c3]) (last := c4) hw
          show AIf _ _ _
          refine ⟨fun _ => ?_, fun h => absurd ⟨rfl, rfl, trivial⟩ h⟩
          show ACall _ _ _ _ _ _
          refine call_ret (Whole_spec g [c1,c2,c3] hfl' hcm') rfl ?_
          rw [hwl, flat_nil]
          show ARet _ _ _
          refine ret_bo (x := bif true then (bif !true then true else ((bif (bif ((c4).l0.length : Int) == 0 then ((c4).l1.length : Int) == 0 else false) then ((c4).l2.length : Int) == 0 else false) == (bif (bif ((c4).l0.length : Int) == 0 then ((c4).l1.length : Int) == 0 else false) then ((c4).l2.length : Int) == 0 else false))) else false) ?_ ⟨rfl, rfl⟩
          simp
  · show AIf ((bif (bif (bif !true then true else !fewH g) then true else decide ((cs.length : Int) < 1)) then true else decide ((cs.length : Int) > 4)) = false ∧ True) _ _
    have hcond : (bif (bif (bif !true then true else !fewH g) then true else decide ((cs.length : Int) < 1)) then true else decide ((cs.length : Int) > 4)) = true := by
      cases hf : fewH g with
      | false => rfl
      | true =>
        by_cases h1 : (cs.length : Int) < 1
        · rw [decide_eq_true h1]; rfl
        · rw [decide_eq_false h1, decide_eq_true (show (cs.length : Int) > 4 from by
            have : ¬ (cs.length ≤ 4) := fun h4 => hc ⟨hf, by omega, h4⟩
            omega)]
          rfl
    rw [hcond]
    refine ⟨fun h => absurd h.1 (by decide), fun _ => ?_⟩
    show AOb _ _
    refine ⟨by exact hcond, ?_⟩
    show ABr _ _ _
    refine ⟨fun _ => ?_, fun h => absurd h (by simp)⟩
    show ARet _ _ _
    exact ret_d rfl ⟨rfl, rfl⟩
end Go.Abs
