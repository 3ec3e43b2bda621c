/- Walks: in the next cycle all is white again. Only next_at so far. -/
import Derived.Test.YtkalcaokmadpjaaDoorWShadeNone
import Derived.Test.YtkalcaokmadpjaaDoorWBegins
set_option linter.all false
set_option linter.unusedVariables false
set_option linter.unusedSimpArgs false
namespace Go.Abs
open Go.Proofs Go.Proofs.YtkalcaokmadpjaaDoor
set_option maxRecDepth 8000

/-- The next cycle's collector. -/
def nextC (c : Col) : Col := { c with epoch := c.epoch + 1 }

theorem next_at {g : Hp} {c : Col} {a : Int} (h0 : headE g a = 0) (he : 0 ≤ c.epoch ∧ c.epoch < 1048576) (hm : (headH g a).mark ≤ c.epoch) :
    atK g (nextC c) a = bif (bif (headH g a).old then !c.major else false) then 0 else 1 := by
  unfold atK
  rw [decide_eq_true h0]
  show colour (nextC c) (headH g a) = _
  unfold colour
  show (bif (bif (bif (bif (headH g a).old then !c.major else false) then true else decide (c.epoch + 1 < 0)) then true else decide (c.epoch + 1 > 1048576)) then 0 else (bif decide ((headH g a).mark < c.epoch + 1) then 1 else _)) = _
  rw [decide_eq_false (show ¬ c.epoch + 1 < 0 by omega), decide_eq_false (show ¬ c.epoch + 1 > 1048576 by omega), decide_eq_true (show (headH g a).mark < c.epoch + 1 by omega)]
  cases (bif (headH g a).old then !c.major else false) <;> rfl

theorem next_white {g : Hp} {c : Col} {a : Int} (h0 : headE g a = 0) (he : 0 ≤ c.epoch ∧ c.epoch < 1048576) (hm : (headH g a).mark ≤ c.epoch) :
    whiteH g (nextC c) a = (bif c.major then true else !(headH g a).old) := by
  unfold whiteH
  rw [next_at h0 he hm]
  cases (headH g a).old <;> cases c.major <;> rfl

theorem next_grey {g : Hp} {c : Col} (he : 0 ≤ c.epoch ∧ c.epoch < 1048576) (hm : ∀ a ∈ usedH g, (headH g a).mark ≤ c.epoch) : greyH g (nextC c) = [] := by
  unfold greyH
  rw [List.filter_eq_nil_iff]
  intro a ha
  rw [next_at (mem_usedH.1 ha) he (hm a ha)]
  cases (headH g a).old <;> cases c.major <;> decide

theorem ShadeEpoch_spec (g : Hp) (c : Col) : Spec X 17 [] [g.tv, c.tv] (Ret [] (.bo true)) := by
  refine spec_go X_ok Tryd.f17 (by kernel_rfl) (by kernel_rfl) (by kernel_rfl) fun hb hH => ⟨rfl, ?_⟩
  show ACall _ _ _ _ _ _
  refine call_ret (awake11_spec) rfl ?_
  show ACall _ _ _ _ _ _
  refine call_ret (few11_spec g c) rfl ?_
  cases hf : few11 g c with
  | false =>
    show AIf _ _ _
    refine ⟨fun h => absurd h.1 (by decide), fun _ => ?_⟩
    show AOb _ _
    refine ⟨by decide, ?_⟩
    show ABr _ _ _
    refine ⟨fun _ => ?_, fun h => absurd h (by simp)⟩
    show ARet _ _ _
    exact ret_d rfl ⟨rfl, rfl⟩
  | true =>
    have hf' := hf
    unfold few11 at hf'
    rw [Bool.and_eq_true, decide_eq_true_eq] at hf'
    have hl := few_light hf'.1
    show AIf _ _ _
    refine ⟨fun _ => ?_, fun h => absurd ⟨rfl, trivial⟩ h⟩
    show ACall _ _ _ _ _ _
    refine call_ret (hHMay0_spec g hl) rfl ?_
    cases hm : mayH g [] with
    | false =>
      show ABr _ _ _
      refine ⟨fun _ => ?_, fun h => absurd h (by simp)⟩
      show ARet _ _ _
      exact ret_d rfl ⟨rfl, rfl⟩
    | true =>
      show ABr (bif (bif !true then true else decide (c.epoch < 0)) then true else decide (c.epoch ≥ 1048576)) _ _
      refine ⟨fun h => ?_, fun h => ?_⟩
      · show ARet _ _ _
        exact ret_d rfl ⟨rfl, rfl⟩
      have he : 0 ≤ c.epoch ∧ c.epoch < 1048576 := by
        by_cases h1 : c.epoch < 0
        · rw [decide_eq_true h1] at h; exact absurd h (by simp)
        · rw [decide_eq_false h1] at h
          have h2 := of_decide_eq_false (show decide (c.epoch ≥ 1048576) = false from h)
          omega
      show ACall _ _ _ _ _ _
      refine call_ret (hUsed_spec g hl) rfl ?_
      obtain ⟨U, hU⟩ : ∃ U, U = usedH g := ⟨_, rfl⟩
      rw [← hU]
      have hD : ({ c with epoch := IntKind.i64.wrap (c.epoch + 1) } : Col) = nextC c := by unfold nextC; rw [wrap64 (by omega) (by omega)]
      show ∃ n, _
      refine ⟨0, ALoop.inv (ι := {i : Nat // i ≤ U.length ∧ ∀ j, j < i → (headH g (U.getD j default)).mark ≤ c.epoch}) (fun i => ⟨[(2, .c (.d (.rp g.enc))), (3, .c (.d (.rp c.enc))), (7, .c (.d (.sl .int U))), (8, .c (.d (.rp ({ c with epoch := IntKind.i64.wrap (c.epoch + 1) } : Col).enc))), (9, .int i.1)], [], 32⟩) (fun i => U.length - i.1) ⟨0, Nat.zero_le _, fun j hj => absurd hj (by omega)⟩ ?_ ?_⟩
      · exact ⟨[], .cons _ _ _ (.c _ _ (.frz _ _ rfl)) (.cons _ _ _ (.c _ _ (.frz _ _ rfl)) (.cons _ _ _ .same (.cons _ _ _ (.c _ _ (.frz _ _ rfl)) (.cons _ _ _ .same .nil)))), .nil, rfl⟩
      · rintro ⟨i, hi, hn⟩
        have hUl : U.length ≤ maxN := by
          rw [hU]; have := starts_len g.pages; rw [usedH_eq hm]
          have := List.length_filter_le (fun a => wordAt g a != 0) (cellStarts g.pages)
          unfold maxN; omega
        show ABr (decide ((i : Int) < (U.length : Int))) _ _
        refine ⟨fun h => ?_, fun h => ?_⟩
        · have hlt : i < U.length := by simpa using h
          show AOb ((0 : Int) ≤ (i : Int) ∧ (i : Int) < (U.length : Int)) _
          refine ⟨by omega, ?_⟩
          obtain ⟨u, hu⟩ : ∃ u, u = U.getD i default := ⟨_, rfl⟩
          show ADCall _ _ [_, .int (U.getD i default)] _ _ _
          rw [← hu]
          refine .mk _ _ (hHead_spec g u hl) rfl ?_
          show ABr (decide ((headH g u).mark > c.epoch)) _ _
          refine ⟨fun h => ?_, fun h => ?_⟩
          · show ARet _ _ _
            exact ret_d rfl ⟨rfl, rfl⟩
          · have hle := of_decide_eq_false h
            show ARound _ _ _ _
            exact ⟨⟨i + 1, hlt, fun j hj => by
              by_cases e : j = i
              · subst e; rw [← hu]; omega
              · exact hn j (by omega)⟩, by show U.length - (i + 1) < U.length - i; omega, [], .cons _ _ _ .same (.cons _ _ _ .same (.cons _ _ _ .same (.cons _ _ _ .same (.cons _ _ _ (.int_eq (wrapP (i := i) (by unfold maxN at hUl ⊢; omega))) .nil)))), .nil, rfl⟩
        · have hge : i = U.length := by simp at h; omega
          have hall : ∀ j, j < U.length → (headH g (U.getD j default)).mark ≤ c.epoch := by rw [← hge]; exact hn
          show ∃ n, _
          refine ⟨0, ALoop.inv (ι := {i : Nat // i ≤ U.length}) (fun i => ⟨[(2, .c (.d (.rp g.enc))), (3, .c (.d (.rp c.enc))), (7, .c (.d (.sl .int U))), (8, .c (.d (.rp ({ c with epoch := IntKind.i64.wrap (c.epoch + 1) } : Col).enc))), (12, .int i.1)], [], 32⟩) (fun i => U.length - i.1) ⟨0, Nat.zero_le _⟩ ?_ ?_⟩
          · exact ⟨[], .cons _ _ _ .same (.cons _ _ _ .same (.cons _ _ _ .same (.cons _ _ _ .same (.cons _ _ _ .same .nil)))), .nil, rfl⟩
          · rintro ⟨i, hi⟩
            show ABr (decide ((i : Int) < (U.length : Int))) _ _
            refine ⟨fun h => ?_, fun h => ?_⟩
            · have hlt : i < U.length := by simpa using h
              obtain ⟨u, hu⟩ : ∃ u, u = U.getD i default := ⟨_, rfl⟩
              have hin : u ∈ usedH g := by
                rw [hu, List.getD_eq_getElem?_getD, List.getElem?_eq_getElem hlt, ← hU]
                exact List.getElem_mem hlt
              have hE0 := mem_usedH.1 hin
              have hmk : (headH g u).mark ≤ c.epoch := by rw [hu]; exact hall i hlt
              show AOb ((0 : Int) ≤ (i : Int) ∧ (i : Int) < (U.length : Int)) _
              refine ⟨by omega, ?_⟩
              show ADCall _ _ [_, .int (U.getD i default)] _ _ _
              rw [← hu]
              refine .mk _ _ (hHead_spec g u hl) rfl ?_
              show AOb ((0 : Int) ≤ (i : Int) ∧ (i : Int) < (U.length : Int)) _
              refine ⟨by omega, ?_⟩
              show ADCall _ _ [_, (({ c with epoch := IntKind.i64.wrap (c.epoch + 1) } : Col)).tv, .int (U.getD i default)] _ _ _
              rw [← hu, hD]
              refine .mk _ _ (White_spec g (nextC c) u hl) rfl ?_
              rw [next_white hE0 he hmk]
              cases hmj : c.major with
              | true =>
                show ABr c.major _ _
                refine ⟨fun _ => ?_, fun h => absurd h (by rw [hmj]; decide)⟩
                show ABr _ _ _
                refine ⟨fun h => absurd h (by simp), fun _ => ?_⟩
                show ARound _ _ _ _
                exact ⟨⟨i + 1, hlt⟩, by show U.length - (i + 1) < U.length - i; omega, [], .cons _ _ _ .same (.cons _ _ _ .same (.cons _ _ _ .same (.cons _ _ _ .same (.cons _ _ _ (.int_eq (wrapP (i := i) (by have := starts_len g.pages; rw [hU, usedH_eq hm] at hlt; have := List.length_filter_le (fun a => wordAt g a != 0) (cellStarts g.pages); unfold maxN; omega))) .nil)))), .nil, rfl⟩
              | false =>
                show ABr c.major _ _
                refine ⟨fun h => absurd h (by rw [hmj]; decide), fun _ => ?_⟩
                show ABr _ _ _
                refine ⟨fun h => absurd h (by simp), fun _ => ?_⟩
                show ARound _ _ _ _
                exact ⟨⟨i + 1, hlt⟩, by show U.length - (i + 1) < U.length - i; omega, [], .cons _ _ _ .same (.cons _ _ _ .same (.cons _ _ _ .same (.cons _ _ _ .same (.cons _ _ _ (.int_eq (wrapP (i := i) (by have := starts_len g.pages; rw [hU, usedH_eq hm] at hlt; have := List.length_filter_le (fun a => wordAt g a != 0) (cellStarts g.pages); unfold maxN; omega))) .nil)))), .nil, rfl⟩
            · show ACall _ _ [_, (({ c with epoch := IntKind.i64.wrap (c.epoch + 1) } : Col)).tv] _ _ _
              rw [hD]
              refine call_ret (Grey_spec g (nextC c) hl) rfl ?_
              have hgr : greyH g (nextC c) = [] := next_grey he (fun a ha => by
                rw [← hU] at ha
                obtain ⟨j, hj, e⟩ := List.mem_iff_getElem.1 ha
                have := hall j hj
                rw [List.getD_eq_getElem?_getD, List.getElem?_eq_getElem hj] at this
                rw [← e]; exact this)
              rw [hgr]
              show ARet _ _ _
              exact ret_d rfl ⟨rfl, rfl⟩
end Go.Abs
