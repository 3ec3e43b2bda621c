/- Walks: a new heap is whole, empty, clean. -/
import Derived.Test.YtkalcaokmadpjaaDoorWAwake7
set_option linter.all false
set_option linter.unusedVariables false
set_option linter.unusedSimpArgs false
namespace Go.Abs
open Go.Proofs Go.Proofs.YtkalcaokmadpjaaDoor
set_option maxRecDepth 8000

theorem pgo_free : ∀ n : Nat, pgo 0 (List.replicate n ⟨0, 0⟩) = true
  | 0 => rfl
  | n + 1 => by
    rw [List.replicate_succ]
    simp only [pgo]
    have := pgo_free n
    simp [pageFits, this]

theorem getD_free (n i : Nat) : (List.replicate n (⟨0, 0⟩ : Page)).getD i default = ⟨0, 0⟩ := by
  rw [List.getD_eq_getElem?_getD]
  by_cases h : i < n
  · rw [List.getElem?_replicate, if_pos h]; rfl
  · rw [List.getElem?_replicate, if_neg h]; rfl

theorem starts_free (n : Nat) : cellStarts (List.replicate n ⟨0, 0⟩) = [] := by
  have : cellsFrom (List.replicate n (⟨0, 0⟩ : Page)) 0 = [] := by
    unfold cellsFrom
    rw [List.flatMap_eq_nil_iff]
    intro j _
    rw [getD_free]
    rfl
  unfold cellStarts cellsAll
  rw [this]
  split <;> rfl

theorem newH_yes {n : Int} (h : pgN n = true) : newH n = ⟨zer (n * 16).toNat, List.replicate n.toNat ⟨0, 0⟩, ⟨[], [], []⟩, List.replicate (2 * n).toNat false⟩ := by unfold newH; rw [h]; rfl

theorem newH_whole {n : Int} (h : pgN n = true) : wholeH (newH n) [] = true ∧ usedH (newH n) = [] := by
  have hn := of_decide_eq_true h
  rw [newH_yes h]
  have hm : mayH ⟨zer (n * 16).toNat, List.replicate n.toNat ⟨0, 0⟩, ⟨[], [], []⟩, List.replicate (2 * n).toNat false⟩ [] = true := by
    unfold mayH shapedH
    have h1 : mayW (zer (n * 16).toNat) = true := by
      unfold mayW zer
      rw [List.length_replicate]
      exact decide_eq_true (by omega)
    have h2 : mayP (List.replicate n.toNat ⟨0, 0⟩) = true := by
      unfold mayP
      rw [pgo_free, List.length_replicate, Bool.true_and]
      exact decide_eq_true (by omega)
    simp only [h1, h2, starts_free]
    have h3 : decide ((zer (n * 16).toNat).length = 16 * (List.replicate n.toNat (⟨0, 0⟩ : Page)).length ∧ (List.replicate (2 * n).toNat false).length = 2 * (List.replicate n.toNat (⟨0, 0⟩ : Page)).length) = true := by
      apply decide_eq_true
      unfold zer
      simp only [List.length_replicate]
      omega
    rw [h3]
    rfl
  constructor
  · unfold wholeH
    rw [hm, starts_free]
    rfl
  · unfold usedH
    rw [hm, starts_free]
    rfl

theorem HeapNew_spec (n : Int) : Spec X 6 [] [.int n] (Ret [] (.bo true)) := by
  refine spec_go X_ok Tryd.f6 (by kernel_rfl) (by kernel_rfl) (by kernel_rfl) fun hb hH => ⟨rfl, ?_⟩
  show ACall _ _ _ _ _ _
  refine call_ret (awake7_spec) rfl ?_
  show ACall _ _ _ _ _ _
  refine call_ret (hNew_spec n) rfl ?_
  cases hp : pgN n with
  | false =>
    have e1 : newE n = 1 := by unfold newE; rw [hp]; rfl
    have e2 : newH n = Hp.zero := by unfold newH; rw [hp]; rfl
    rw [e1, e2]
    show ABr _ _ _
    refine ⟨fun _ => ?_, fun h => absurd h (by decide)⟩
    show ARet _ _ _
    refine ret_bo (x := bif (bif true then (Hp.zero.w.length : Int) == 0 else false) then (bif decide (n < 1) then true else decide (n > 64)) else false) ?_ ⟨rfl, rfl⟩
    have hn : ¬ (1 ≤ n ∧ n ≤ 64) := of_decide_eq_false hp
    show (bif decide (n < 1) then true else decide (n > 64)) = true
    by_cases h1 : n < 1
    · rw [decide_eq_true h1]; rfl
    · rw [decide_eq_false h1]
      show decide (n > 64) = true
      exact decide_eq_true (by omega)
  | true =>
    have e1 : newE n = 0 := by unfold newE; rw [hp]; rfl
    obtain ⟨hw, hu⟩ := newH_whole hp
    have hl := newH_light n
    have e2 := newH_yes hp
    have hn := of_decide_eq_true hp
    rw [e1]
    show ABr _ _ _
    refine ⟨fun h => absurd h (by decide), fun _ => ?_⟩
    generalize newH n = g at *
    have lw : g.w.length = (n * 16).toNat := by rw [e2]; unfold zer; simp
    have lc : g.cards.length = (2 * n).toNat := by rw [e2]; simp
    have hz : ∀ i, i < g.w.length → g.w.getD i default = 0 := by
      intro i hi
      rw [e2, List.getD_eq_getElem?_getD]
      show ((zer (n * 16).toNat)[i]?).getD default = 0
      unfold zer
      rw [List.getElem?_replicate]
      split <;> rfl
    have hzc : ∀ i, i < g.cards.length → g.cards.getD i default = false := by
      intro i hi
      rw [e2, List.getD_eq_getElem?_getD]
      show ((List.replicate (2 * n).toNat false)[i]?).getD default = false
      rw [List.getElem?_replicate]
      split <;> rfl
    show ∃ n, _
    refine ⟨0, ALoop.inv (ι := {i : Nat // i ≤ g.w.length}) (fun i => ⟨[(0, .int n), (4, .c (.d (.rp g.enc))), (6, .int i.1)], [], 64⟩) (fun i => g.w.length - i.1) ⟨0, Nat.zero_le _⟩ ?_ ?_⟩
    · exact ⟨[], .cons _ _ _ .same (.cons _ _ _ (.c _ _ (.frz _ _ rfl)) (.cons _ _ _ .same .nil)), .nil, rfl⟩
    · rintro ⟨i, hi⟩
      show ABr (decide ((i : Int) < (g.w.length : Int))) _ _
      refine ⟨fun h => ?_, fun h => ?_⟩
      · have hlt : i < g.w.length := by simpa using h
        show AOb ((0 : Int) ≤ (i : Int) ∧ (i : Int) < (g.w.length : Int)) _
        refine ⟨by omega, ?_⟩
        show ABr (g.w.getD i default != 0) _ _
        rw [hz i hlt]
        show ABr _ _ _
        refine ⟨fun h => absurd h (by decide), fun _ => ?_⟩
        show ARound _ _ _ _
        exact ⟨⟨i + 1, hlt⟩, by show g.w.length - (i + 1) < g.w.length - i; omega, [], .cons _ _ _ .same (.cons _ _ _ .same (.cons _ _ _ (.int_eq (wrapP (i := i) (by unfold maxN; omega))) .nil)), .nil, rfl⟩
      · show ∃ n, _
        refine ⟨0, ALoop.inv (ι := {i : Nat // i ≤ g.cards.length}) (fun i => ⟨[(0, .int n), (4, .c (.d (.rp g.enc))), (7, .int i.1)], [], 64⟩) (fun i => g.cards.length - i.1) ⟨0, Nat.zero_le _⟩ ?_ ?_⟩
        · exact ⟨[], .cons _ _ _ .same (.cons _ _ _ .same (.cons _ _ _ .same .nil)), .nil, rfl⟩
        · rintro ⟨i, hi⟩
          show ABr (decide ((i : Int) < (g.cards.length : Int))) _ _
          refine ⟨fun h => ?_, fun h => ?_⟩
          · have hlt : i < g.cards.length := by simpa using h
            show AOb ((0 : Int) ≤ (i : Int) ∧ (i : Int) < (g.cards.length : Int)) _
            refine ⟨by omega, ?_⟩
            show ABr (g.cards.getD i default) _ _
            rw [hzc i hlt]
            show ABr _ _ _
            refine ⟨fun h => absurd h (by decide), fun _ => ?_⟩
            show ARound _ _ _ _
            exact ⟨⟨i + 1, hlt⟩, by show g.cards.length - (i + 1) < g.cards.length - i; omega, [], .cons _ _ _ .same (.cons _ _ _ .same (.cons _ _ _ (.int_eq (wrapP (i := i) (by unfold maxN; omega))) .nil)), .nil, rfl⟩
          · have w1 : IntKind.i64.wrap (16 * n) = 16 * n := wrap64 (by omega) (by omega)
            have w2 : IntKind.i64.wrap (2 * n) = 2 * n := wrap64 (by omega) (by omega)
            have ec : (bif (bif (bif decide (n ≥ 1) then decide (n ≤ 64) else false) then (g.w.length : Int) == IntKind.i64.wrap (16 * n) else false) then (g.cards.length : Int) == IntKind.i64.wrap (2 * n) else false) = true := by
              rw [w1, w2, lw, lc, decide_eq_true (show n ≥ 1 by omega), decide_eq_true (show n ≤ 64 by omega)]
              have g1 : (((n * 16).toNat : Nat) : Int) == 16 * n := by rw [beq_iff_eq]; omega
              have g2 : (((2 * n).toNat : Nat) : Int) == 2 * n := by rw [beq_iff_eq]; omega
              simp only [cond_true]
              rw [g1, g2]
              rfl
            show AIf ((bif (bif (bif decide (n ≥ 1) then decide (n ≤ 64) else false) then (g.w.length : Int) == IntKind.i64.wrap (16 * n) else false) then (g.cards.length : Int) == IntKind.i64.wrap (2 * n) else false) = true ∧ True) _ _
            refine ⟨fun _ => ?_, fun h => absurd ⟨ec, trivial⟩ h⟩
            show ACall _ _ _ _ _ _
            refine call_ret (Whole0_spec g hl) rfl ?_
            rw [hw]
            show AIf _ _ _
            refine ⟨fun _ => ?_, fun h => absurd ⟨rfl, trivial⟩ h⟩
            show ACall _ _ _ _ _ _
            refine call_ret (hUsed_spec g hl) rfl ?_
            rw [hu]
            show ARet _ _ _
            exact ret_d rfl ⟨rfl, rfl⟩
end Go.Abs
