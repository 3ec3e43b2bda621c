/- Walks: cards that are dirtied, in whichever order, are dirty. -/
import Derived.Test.YtkalcaokmadpjaaDoorWCardsKeep
import Derived.Test.YtkalcaokmadpjaaDoorWSame07
set_option linter.all false
set_option linter.unusedVariables false
set_option linter.unusedSimpArgs false
namespace Go.Abs
open Go.Proofs Go.Proofs.YtkalcaokmadpjaaDoor
set_option maxRecDepth 8000

theorem cset_comm (g : Hp) (m n : Int) : cset (cset g m true) n true = cset (cset g n true) m true := by
  unfold cset
  simp only
  congr 1
  by_cases h : m.toNat = n.toNat
  · rw [h]
  · exact List.set_comm _ _ h

theorem isDirty_cset {g : Hp} {a : Int} (h : cardE g a = 0) (c : Int) (hd : isDirty g a = true) : isDirty (cset g c true) a = true := by
  unfold isDirty at hd ⊢
  rw [cardE_cset, cardOf_cset, h]
  rw [h] at hd
  show (g.cards.set c.toNat true).getD (cardOf g a).toNat false = true
  have hd : g.cards.getD (cardOf g a).toNat false = true := hd
  rw [List.getD_eq_getElem?_getD] at hd ⊢
  rw [List.getElem?_set]
  have := card_in h
  split
  · rename_i e
    rw [e, if_pos (by omega)]
    rfl
  · exact hd

theorem CardsTwice_spec (g : Hp) (a b : Int) (ha : I64 a) (hb64 : I64 b) : Spec X 3 [] [g.tv, .int a, .int b] (Ret [] (.bo true)) := by
  refine spec_go X_ok Tryd.f3 (by kernel_rfl) (by kernel_rfl) (by kernel_rfl) fun hb hH => ⟨rfl, ?_⟩
  show ACall _ _ _ _ _ _
  refine call_ret (awake10_spec) rfl ?_
  show ACall _ _ _ _ _ _
  refine call_ret (Few_spec g) rfl ?_
  cases hf : fewH g with
  | false =>
    show ABr _ _ _
    refine ⟨fun _ => ?_, fun h => absurd h (by decide)⟩
    show ARet _ _ _
    exact ret_d rfl ⟨rfl, rfl⟩
  | true =>
    have hl := few_light hf
    show ABr _ _ _
    refine ⟨fun h => absurd h (by decide), fun _ => ?_⟩
    show ACall _ _ _ _ _ _
    refine call_ret (cOf10_spec g a hl ha.2) rfl ?_
    show ACall _ _ _ _ _ _
    refine call_ret (cOf10_spec g b hl hb64.2) rfl ?_
    show ABr (bif cardE g a != 0 then true else cardE g b != 0) _ _
    refine ⟨fun h => ?_, fun h => ?_⟩
    · show ARet _ _ _
      exact ret_d rfl ⟨rfl, rfl⟩
    · have hE : cardE g a = 0 ∧ cardE g b = 0 := by
        by_cases h1 : cardE g a = 0
        · rw [h1] at h; exact ⟨h1, by simpa using h⟩
        · have h1' : (cardE g a != 0) = true := by simp [h1]
          rw [h1'] at h; exact absurd h (by simp)
      obtain ⟨hEa, hEb⟩ := hE
      obtain ⟨hm, a1, a2⟩ := cardE_of hEa
      obtain ⟨_, b1, b2⟩ := cardE_of hEb
      obtain ⟨_, _, hsl, hcl, hp1, hp2⟩ := shapedH_of (mayH_shaped hm)
      obtain ⟨m, hmm⟩ : ∃ m, m = cardOf g a := ⟨_, rfl⟩
      obtain ⟨n, hnn⟩ : ∃ n, n = cardOf g b := ⟨_, rfl⟩
      have hA := dirtyH_yes hEa
      have hB := dirtyH_yes hEb
      rw [← hmm] at hA
      rw [← hnn] at hB
      have eAb : cardE (cset g m true) b = 0 := by rw [cardE_cset]; exact hEb
      have eBa : cardE (cset g n true) a = 0 := by rw [cardE_cset]; exact hEa
      have hAB : dirtyH (cset g m true) b = cset (cset g m true) n true := by rw [dirtyH_yes eAb, cardOf_cset, ← hnn]
      have hBA : dirtyH (cset g n true) a = cset (cset g n true) m true := by rw [dirtyH_yes eBa, cardOf_cset, ← hmm]
      have lA : (cset g m true).light := hl
      have lB : (cset g n true).light := hl
      have lAB : (cset (cset g m true) n true).light := hl
      rw [← hmm, ← hnn]
      show ACall _ _ _ _ _ _
      refine call_ret (Dirty_spec g a hl ha.2) rfl ?_
      rw [hA, hEa]
      show ACall _ _ _ _ _ _
      refine call_ret (Dirty_spec (cset g m true) b lA hb64.2) rfl ?_
      rw [hAB, eAb]
      show ACall _ _ _ _ _ _
      refine call_ret (Dirty_spec g b hl hb64.2) rfl ?_
      rw [hB, hEb]
      show ACall _ _ _ _ _ _
      refine call_ret (Dirty_spec (cset g n true) a lB ha.2) rfl ?_
      rw [hBA, eBa]
      show ACall _ _ _ _ _ _
      refine call_ret (hSame_spec (cset (cset g m true) n true) (cset (cset g n true) m true)) rfl ?_
      rw [decide_eq_true (cset_comm g m n)]
      have d1 : isDirty (cset (cset g m true) n true) a = true := isDirty_cset (by rw [cardE_cset]; exact hEa) n (by rw [hmm]; exact dirty_cset hEa true)
      have d2 : isDirty (cset (cset g m true) n true) b = true := by
        have := dirty_cset (g := cset g m true) (a := b) eAb true
        rw [cardOf_cset, ← hnn] at this
        exact this
      show AOb _ _
      refine ⟨by decide, ?_⟩
      show AOb _ _
      refine ⟨by decide, ?_⟩
      show AIf _ _ _
      refine ⟨fun _ => ?_, fun h => absurd ⟨rfl, trivial⟩ h⟩
      show ACall _ _ _ _ _ _
      refine call_ret (Is_spec (cset (cset g m true) n true) a lAB ha.2) rfl ?_
      rw [d1]
      show AIf _ _ _
      refine ⟨fun _ => ?_, fun h => absurd ⟨rfl, trivial⟩ h⟩
      show ACall _ _ _ _ _ _
      refine call_ret (Is_spec (cset (cset g m true) n true) b lAB hb64.2) rfl ?_
      rw [d2]
      have ea : tdv a 8 = a / 8 := tdv_eq (by omega) (by omega) (by omega)
      have eb : tdv b 8 = b / 8 := tdv_eq (by omega) (by omega) (by omega)
      have ew : IntKind.i64.wrap (2 * (g.pages.length : Int)) = 2 * (g.pages.length : Int) := wrap64 (by omega) (by omega)
      show ARet _ _ _
      refine ret_bo (x := bif (bif true then (m == n) == (tdv a 8 == tdv b 8) else false) then (g.cards.length : Int) == IntKind.i64.wrap (2 * (g.pages.length : Int)) else false) ?_ ⟨rfl, rfl⟩
      have em : m = (a - 16) / 8 := by rw [hmm]; exact cardOf_yes hEa
      have en : n = (b - 16) / 8 := by rw [hnn]; exact cardOf_yes hEb
      rw [ea, eb, ew]
      have e1 : (m == n) = (a / 8 == b / 8) := by
        rw [Bool.eq_iff_iff, beq_iff_eq, beq_iff_eq]
        omega
      have e2 : ((g.cards.length : Int) == 2 * (g.pages.length : Int)) = true := by rw [beq_iff_eq]; omega
      rw [e1, e2, beq_self_eq_true]
      rfl
end Go.Abs
