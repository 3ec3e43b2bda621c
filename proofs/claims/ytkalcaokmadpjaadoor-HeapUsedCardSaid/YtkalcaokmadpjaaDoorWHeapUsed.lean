/- Walks: just the cells with a head that is used are objects. -/
import Derived.Test.YtkalcaokmadpjaaDoorWAwake7
import Derived.Test.YtkalcaokmadpjaaDoorWBegins
import Derived.Test.YtkalcaokmadpjaaDoorWHeapK
set_option linter.all false
set_option linter.unusedVariables false
set_option linter.unusedSimpArgs false
namespace Go.Abs
open Go.Proofs Go.Proofs.YtkalcaokmadpjaaDoor
set_option maxRecDepth 8000

theorem HeapUsed_spec (g : Hp) : Spec X 7 [] [g.tv] (Ret [] (.bo true)) := by
  refine spec_go X_ok Tryd.f7 (by kernel_rfl) (by kernel_rfl) (by kernel_rfl) fun hb hH => ⟨rfl, ?_⟩
  show ACall _ _ _ _ _ _
  refine call_ret (awake7_spec) rfl ?_
  show ACall _ _ _ _ _ _
  refine call_ret (Few_spec g) rfl ?_
  cases hf : fewH g with
  | false =>
    show AIf _ _ _
    refine ⟨fun h => absurd h.1 (by decide), fun _ => ?_⟩
    show AOb _ _
    refine ⟨rfl, ?_⟩
    show ABr _ _ _
    refine ⟨fun _ => ?_, fun h => absurd h (by decide)⟩
    show ARet _ _ _
    exact ret_d rfl ⟨rfl, rfl⟩
  | true =>
    have hl := few_light hf
    have hw : g.w.length ≤ 130 := (of_decide_eq_true hf).1
    show AIf _ _ _
    refine ⟨fun _ => ?_, fun h => absurd ⟨rfl, trivial⟩ h⟩
    show ACall _ _ _ _ _ _
    refine call_ret (hHMay0_spec g hl) rfl ?_
    cases hm : mayH g [] with
    | false =>
      show ABr _ _ _
      refine ⟨fun _ => ?_, fun h => absurd h (by decide)⟩
      show ARet _ _ _
      exact ret_d rfl ⟨rfl, rfl⟩
    | true =>
      have hs := mayH_shaped hm
      obtain ⟨_, _, hsl, _⟩ := shapedH_of hs
      have hsort := usedH_sorted g
      have hul : (usedH g).length ≤ 512 := by
        have := starts_len g.pages
        rw [usedH_eq hm]
        exact Nat.le_trans (List.length_filter_le _ _) this
      show ABr _ _ _
      refine ⟨fun h => absurd h (by decide), fun _ => ?_⟩
      show ACall _ _ _ _ _ _
      refine call_ret (hUsed_spec g hl) rfl ?_
      obtain ⟨U, hU⟩ : ∃ U, U = usedH g := ⟨_, rfl⟩
      rw [← hU] at hsort hul ⊢
      have w1 : IntKind.i64.wrap (20 + (g.w.length : Int)) = 20 + (g.w.length : Int) := wrap64 (by omega) (by omega)
      show ∃ n, _
      refine ⟨0, ALoop.inv (ι := {i : Nat // i ≤ 20 + g.w.length}) (fun i => ⟨[(1, .c (.d (.rp g.enc))), (5, .c (.d (.sl .int U))), (6, .int (cntB U i.1)), (7, .int i.1)], [], 32⟩) (fun i => 20 + g.w.length - i.1) ⟨0, Nat.zero_le _⟩ ?_ ?_⟩
      · refine ⟨[], .cons _ _ _ (.c _ _ (.frz _ _ rfl)) (.cons _ _ _ .same (.cons _ _ _ (.int_eq ?_) (.cons _ _ _ .same .nil))), .nil, rfl⟩
        rw [cntB_none]
        · rfl
        · intro x hx
          rw [hU] at hx
          have := (head_fits (mem_usedH.1 hx)).2.2.2.1
          show ((0 : Nat) : Int) ≤ x
          omega
      · rintro ⟨i, hi⟩
        show ABr (decide ((i : Int) < IntKind.i64.wrap (20 + (g.w.length : Int)))) _ _
        rw [w1]
        refine ⟨fun h => ?_, fun h => ?_⟩
        · have hlt : i < 20 + g.w.length := by have := of_decide_eq_true h; omega
          have wi : IntKind.i64.wrap ((i : Int) + 1) = ((i + 1 : Nat) : Int) := wrapP (i := i) (by unfold maxN; omega)
          show ACall _ _ _ _ _ _
          refine call_ret (hHead_spec g (i : Int) hl) rfl ?_
          show ABr (headE g (i : Int) != 0) _ _
          refine ⟨fun h => ?_, fun h => ?_⟩
          · have hE : headE g (i : Int) ≠ 0 := by simpa using h
            have hn : (i : Int) ∉ U := fun hin => hE (mem_usedH.1 (hU ▸ hin))
            show ARound _ _ _ _
            exact ⟨⟨i + 1, hlt⟩, by show 20 + g.w.length - (i + 1) < 20 + g.w.length - i; omega, [], .cons _ _ _ .same (.cons _ _ _ .same (.cons _ _ _ (.int_eq (by show (cntB U i : Int) = cntB U ((i + 1 : Nat) : Int); rw [show ((i + 1 : Nat) : Int) = (i : Int) + 1 from rfl, cntB_out hn])) (.cons _ _ _ (.int_eq wi) .nil))), .nil, rfl⟩
          · have hE : headE g (i : Int) = 0 := by simpa using h
            have hin : (i : Int) ∈ U := hU ▸ mem_usedH.2 hE
            obtain ⟨c1, c2, c3⟩ := cntB_in hsort hin
            obtain ⟨f1, f2, f3, _⟩ := head_fits hE
            show ABr (decide ((cntB U (i : Int) : Int) ≥ (U.length : Int))) _ _
            refine ⟨fun h => absurd (of_decide_eq_true h) (by omega), fun _ => ?_⟩
            show AOb ((0 : Int) ≤ (cntB U (i : Int) : Int) ∧ (cntB U (i : Int) : Int) < (U.length : Int)) _
            refine ⟨by omega, ?_⟩
            show ABr (U.getD (cntB U (i : Int)) default != (i : Int)) _ _
            have c2' : U.getD (cntB U (i : Int)) default = (i : Int) := c2
            rw [c2']
            show ABr _ _ _
            refine ⟨fun h => absurd h (by simp), fun _ => ?_⟩
            show ABr (!(headH g (i : Int)).used) _ _
            rw [f1]
            show ABr _ _ _
            refine ⟨fun h => absurd h (by decide), fun _ => ?_⟩
            show ABr (decide ((headH g (i : Int)).n < 1)) _ _
            refine ⟨fun h => absurd (of_decide_eq_true h) (by omega), fun _ => ?_⟩
            show ADCall _ _ _ _ _ _
            refine .mk _ _ (Begins_spec g.pages (i : Int)) rfl ?_
            show ABr (decide ((headH g (i : Int)).n ≥ roomAt g.pages (i : Int))) _ _
            refine ⟨fun h => absurd (of_decide_eq_true h) (by omega), fun _ => ?_⟩
            show ARound _ _ _ _
            exact ⟨⟨i + 1, hlt⟩, by show 20 + g.w.length - (i + 1) < 20 + g.w.length - i; omega, [], .cons _ _ _ .same (.cons _ _ _ .same (.cons _ _ _ (.int_eq (by rw [wrapP (i := cntB U (i : Int)) (by unfold maxN; omega)]; show ((cntB U (i : Int) + 1 : Nat) : Int) = cntB U ((i + 1 : Nat) : Int); rw [show ((i + 1 : Nat) : Int) = (i : Int) + 1 from rfl, c3])) (.cons _ _ _ (.int_eq wi) .nil))), .nil, rfl⟩
        · have hge : i = 20 + g.w.length := by have := of_decide_eq_false h; omega
          show ARet _ _ _
          refine ret_bo (x := ((cntB U (i : Int) : Int) == (U.length : Int))) ?_ ⟨rfl, rfl⟩
          rw [cntB_all]
          · simp
          · intro x hx
            rw [hU] at hx
            have := (head_fits (mem_usedH.1 hx)).2.2.2.2
            omega
end Go.Abs
