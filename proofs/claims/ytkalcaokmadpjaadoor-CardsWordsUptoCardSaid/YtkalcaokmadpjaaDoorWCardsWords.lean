/- Walks: what is dirtied, or cleaned, changes no object, no page, and no free cell. -/
import Derived.Test.YtkalcaokmadpjaaDoorWCards
import Derived.Test.YtkalcaokmadpjaaDoorWHeapWords
set_option linter.all false
set_option linter.unusedVariables false
set_option linter.unusedSimpArgs false
namespace Go.Abs
open Go.Proofs Go.Proofs.YtkalcaokmadpjaaDoor
set_option maxRecDepth 8000

theorem CardsWords_spec (g : Hp) (cs : List Lists) (hbk : (flats cs).length ≤ 1048576) (a : Int) (ha : a < 9223372036854775808) (c : Int) : Spec X 11 [] [g.tv, .c (.d (.sl .lists cs)), .int a, .int c] (Ret [] (.bo true)) := by
  refine spec_go X_ok Tryd.f11 (by kernel_rfl) (by kernel_rfl) (by kernel_rfl) fun hb hH => ⟨rfl, ?_⟩
  show ACall _ _ _ _ _ _
  refine call_ret (awake10_spec) rfl ?_
  show ACall _ _ _ _ _ _
  refine call_ret (Few_spec g) rfl ?_
  show ABr (bif (bif !true then true else !fewH g) then true else decide ((cs.length : Int) > 4)) _ _
  refine ⟨fun h => ?_, fun h => ?_⟩
  · show ARet _ _ _
    exact ret_d rfl ⟨rfl, rfl⟩
  have hc := few_caches (g := g) (n := cs.length)
  rw [h] at hc
  have hc : fewH g = true ∧ cs.length ≤ 4 := by
    by_cases hx : fewH g = true ∧ cs.length ≤ 4
    · exact hx
    · rw [decide_eq_false hx] at hc; exact absurd hc (by decide)
  obtain ⟨hf, h4⟩ := hc
  have hl := few_light hf
  have hfl := flats_upto hf hbk
  have hcm : cs.length < most := by unfold most; omega
  show ACall _ _ _ _ _ _
  refine call_ret (Dirty_spec g a hl ha) rfl ?_
  show ACall _ _ _ _ _ _
  refine call_ret (Clean_spec g c hl) rfl ?_
  have ld := dirty_light hl a
  have lc := clean_light hl c
  by_cases h1 : cardE g a = 0
  · rw [dirtyH_yes h1] at ld ⊢
    rw [h1]
    have hm1 : mayH (cset g (cardOf g a) true) [] = true := by rw [may_cset]; exact (cardE_of h1).1
    have hf1 : (flats (lsts (cset g (cardOf g a) true) cs)).length ≤ most := hfl
    show ABr _ _ _
    refine ⟨fun h => absurd h (by decide), fun _ => ?_⟩
    show ADCall _ _ _ _ _ _
    refine .mk _ _ (hHMay0_spec (cset g (cardOf g a) true) ld) rfl ?_
    rw [hm1]
    show ABr _ _ _
    refine ⟨fun _ => ?_, fun h => absurd h (by decide)⟩
    show ADCall _ _ _ _ _ _
    refine .mk _ _ (Whole_spec (cset g (cardOf g a) true) cs hf1 hcm) rfl ?_
    rw [whole_cset]
    show ADCall _ _ _ _ _ _
    refine .mk _ _ (Whole_spec g cs hfl hcm) rfl ?_
    show ABr _ _ _
    refine ⟨fun _ => ?_, fun h => absurd h (by simp)⟩
    show ADCall _ _ _ _ _ _
    refine .mk _ _ (hUsed_spec (cset g (cardOf g a) true) ld) rfl ?_
    rw [used_cset]
    show ADCall _ _ _ _ _ _
    refine .mk _ _ (hUsed_spec g hl) rfl ?_
    show ADCall _ _ _ _ _ _
    refine .mk _ _ (Ints_spec (usedH g) (usedH g)) rfl ?_
    rw [decide_eq_true rfl]
    by_cases h2 : cleanE g c = 0
    · rw [cleanH_yes h2] at lc ⊢
      rw [h2]
      have hm2 : mayH (cset g c false) [] = true := by
        rw [may_cset]
        cases hm : mayH g [] with
        | true => rfl
        | false => unfold cleanE at h2; rw [hm] at h2; exact absurd (show (1 : Int) = 0 from h2) (by decide)
      have hf2 : (flats (lsts (cset g c false) cs)).length ≤ most := hfl
      show ABr _ _ _
      refine ⟨fun h => absurd h (by decide), fun _ => ?_⟩
      show ADCall _ _ _ _ _ _
      refine .mk _ _ (hHMay0_spec (cset g c false) lc) rfl ?_
      rw [hm2]
      show ABr _ _ _
      refine ⟨fun _ => ?_, fun h => absurd h (by decide)⟩
      show ADCall _ _ _ _ _ _
      refine .mk _ _ (Whole_spec (cset g c false) cs hf2 hcm) rfl ?_
      rw [whole_cset]
      show ADCall _ _ _ _ _ _
      refine .mk _ _ (Whole_spec g cs hfl hcm) rfl ?_
      show ABr _ _ _
      refine ⟨fun _ => ?_, fun h => absurd h (by simp)⟩
      show ADCall _ _ _ _ _ _
      refine .mk _ _ (Ints_spec g.w g.w) rfl ?_
      rw [decide_eq_true rfl]
      show ARet _ _ _
      exact ret_d rfl ⟨rfl, rfl⟩
    · show ABr _ _ _
      refine ⟨fun _ => ?_, fun h => absurd h (by simpa using h2)⟩
      show ARet _ _ _
      exact ret_d rfl ⟨rfl, rfl⟩
  · show ABr _ _ _
    refine ⟨fun _ => ?_, fun h => absurd h (by simpa using h1)⟩
    by_cases h2 : cleanE g c = 0
    · rw [cleanH_yes h2] at lc ⊢
      rw [h2]
      have hm2 : mayH (cset g c false) [] = true := by
        rw [may_cset]
        cases hm : mayH g [] with
        | true => rfl
        | false => unfold cleanE at h2; rw [hm] at h2; exact absurd (show (1 : Int) = 0 from h2) (by decide)
      have hf2 : (flats (lsts (cset g c false) cs)).length ≤ most := hfl
      show ABr _ _ _
      refine ⟨fun h => absurd h (by decide), fun _ => ?_⟩
      show ADCall _ _ _ _ _ _
      refine .mk _ _ (hHMay0_spec (cset g c false) lc) rfl ?_
      rw [hm2]
      show ABr _ _ _
      refine ⟨fun _ => ?_, fun h => absurd h (by decide)⟩
      show ADCall _ _ _ _ _ _
      refine .mk _ _ (Whole_spec (cset g c false) cs hf2 hcm) rfl ?_
      rw [whole_cset]
      show ADCall _ _ _ _ _ _
      refine .mk _ _ (Whole_spec g cs hfl hcm) rfl ?_
      show ABr _ _ _
      refine ⟨fun _ => ?_, fun h => absurd h (by simp)⟩
      show ADCall _ _ _ _ _ _
      refine .mk _ _ (Ints_spec g.w g.w) rfl ?_
      rw [decide_eq_true rfl]
      show ARet _ _ _
      exact ret_d rfl ⟨rfl, rfl⟩
    · show ABr _ _ _
      refine ⟨fun _ => ?_, fun h => absurd h (by simpa using h2)⟩
      show ARet _ _ _
      exact ret_d rfl ⟨rfl, rfl⟩
end Go.Abs
