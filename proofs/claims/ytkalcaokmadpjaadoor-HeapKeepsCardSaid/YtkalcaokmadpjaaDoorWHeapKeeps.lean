/- Walks: with another head set a heap may be, is whole as it was, and every other object's head is as it was. -/
import Derived.Test.YtkalcaokmadpjaaDoorWAwake7
import Derived.Test.YtkalcaokmadpjaaDoorWHeapK
import Derived.Test.YtkalcaokmadpjaaDoorWBegins
set_option linter.all false
set_option linter.unusedVariables false
set_option linter.unusedSimpArgs false
namespace Go.Abs
open Go.Proofs Go.Proofs.YtkalcaokmadpjaaDoor
set_option maxRecDepth 8000

theorem hd_eq (p q : Hd) : (p.used == q.used && (p.old == q.old && (p.done == q.done && (p.n == q.n && (p.born == q.born && (p.mark == q.mark && true)))))) = decide (p = q) := by
  obtain ⟨a, b, c, d, e, f⟩ := p
  obtain ⟨a', b', c', d', e', f'⟩ := q
  rw [Bool.eq_iff_iff]
  simp

theorem HeapKeeps_spec (g : Hp) (a : Int) (x : Hd) : Spec X 13 [] [g.tv, .int a, x.tv] (Ret [] (.bo true)) := by
  refine spec_go X_ok Tryd.f13 (by kernel_rfl) (by kernel_rfl) (by kernel_rfl) fun hb hH => ⟨rfl, ?_⟩
  show ACall _ _ _ _ _ _
  refine call_ret (awake7_spec) rfl ?_
  show ACall _ _ _ _ _ _
  refine call_ret (Few_spec g) rfl ?_
  cases hf : fewH g with
  | false =>
    show ABr _ _ _
    refine ⟨fun _ => ?_, fun h => absurd h (by decide)⟩
    show ARet _ _ _
    exact ret_d rfl ⟨rfl, rfl⟩
  | true =>
    have hl := few_light hf
    have hw : g.w.length ≤ 130 := (of_decide_eq_true hf).1
    show ABr _ _ _
    refine ⟨fun h => absurd h (by decide), fun _ => ?_⟩
    show ACall _ _ _ _ _ _
    refine call_ret (hSet_spec g a x hl) rfl ?_
    show ABr (setE g a x != 0) _ _
    refine ⟨fun h => ?_, fun h => ?_⟩
    · have hE : setE g a x ≠ 0 := by simpa using h
      rw [setH_no rfl hE]
      show ARet _ _ _
      exact ret_d rfl ⟨rfl, rfl⟩
    · have hE : setE g a x = 0 := by simpa using h
      obtain ⟨hok, h0⟩ := setE_ok hE
      have hB := setH_yes hE
      have hlb : (putH g a x.word).light := hl
      rw [hB]
      show ACall _ _ _ _ _ _
      refine call_ret (hUsed_spec g hl) rfl ?_
      obtain ⟨U, hU⟩ : ∃ U, U = usedH g := ⟨_, rfl⟩
      rw [← hU]
      have hul : U.length ≤ 512 := by
        have := starts_len g.pages
        rw [hU, usedH_eq hok.may]
        exact Nat.le_trans (List.length_filter_le _ _) this
      show ∃ n, _
      refine ⟨0, ALoop.inv (ι := {i : Nat // i ≤ U.length}) (fun i => ⟨[(1, .int a), (3, .c (.d (.rp g.enc))), (5, .c (.d (.rp x.enc))), (9, .c (.d (.rp (putH g a x.word).enc))), (11, .c (.d (.sl .int U))), (12, .int i.1)], [], 32⟩) (fun i => U.length - i.1) ⟨0, Nat.zero_le _⟩ ?_ ?_⟩
      · exact ⟨[], .cons _ _ _ .same (.cons _ _ _ (.c _ _ (.frz _ _ rfl)) (.cons _ _ _ (.c _ _ (.frz _ _ rfl)) (.cons _ _ _ (.c _ _ (.frz _ _ rfl)) (.cons _ _ _ .same (.cons _ _ _ .same .nil))))), .nil, rfl⟩
      · rintro ⟨i, hi⟩
        show ABr (decide ((i : Int) < (U.length : Int))) _ _
        refine ⟨fun h => ?_, fun h => ?_⟩
        · have hlt : i < U.length := by simpa using h
          have wi : IntKind.i64.wrap ((i : Int) + 1) = ((i + 1 : Nat) : Int) := wrapP (i := i) (by unfold maxN; omega)
          obtain ⟨u, hu⟩ : ∃ u, u = U.getD i default := ⟨_, rfl⟩
          have hin : u ∈ usedH g := by
            rw [hu, List.getD_eq_getElem?_getD, List.getElem?_eq_getElem hlt, ← hU]
            exact List.getElem_mem hlt
          have hE0 := mem_usedH.1 hin
          obtain ⟨hE1, hH1⟩ := head_put hok hE0
          show AOb ((0 : Int) ≤ (i : Int) ∧ (i : Int) < (U.length : Int)) _
          refine ⟨by omega, ?_⟩
          show ADCall _ _ [_, .int (U.getD i default)] _ _ _
          rw [← hu]
          refine .mk _ _ (hHead_spec (putH g a x.word) u hlb) rfl ?_
          have hH2 : headH (putH g a x.word) u = (bif decide (u = a) then x else headH g u) := by
            rw [hH1]
            by_cases e : u = a
            · rw [if_pos e, decide_eq_true e]; rfl
            · rw [if_neg e, decide_eq_false e]; rfl
          obtain ⟨y, hy⟩ : ∃ y, y = headH (putH g a x.word) u := ⟨_, rfl⟩
          obtain ⟨z, hz⟩ : ∃ z, z = headH g u := ⟨_, rfl⟩
          rw [hE1, ← hy]
          show AOb ((0 : Int) ≤ (i : Int) ∧ (i : Int) < (U.length : Int)) _
          refine ⟨by omega, ?_⟩
          show ADCall _ _ [_, .int (U.getD i default)] _ _ _
          rw [← hu]
          refine .mk _ _ (hHead_spec g u hl) rfl ?_
          rw [hE0, ← hz]
          show AOb (_ → ((0 : Int) ≤ (i : Int) ∧ (i : Int) < (U.length : Int))) _
          refine ⟨fun _ => by omega, ?_⟩
          show AOb (_ → ((0 : Int) ≤ (i : Int) ∧ (i : Int) < (U.length : Int))) _
          refine ⟨fun _ => by omega, ?_⟩
          have hyx : ∀ p q : Hd, (p.used == q.used && (p.old == q.old && (p.done == q.done && (p.n == q.n && (p.born == q.born && (p.mark == q.mark && true)))))) = decide (p = q) := hd_eq
          have hc : (bif (bif (bif (0 : Int) != 0 then true else (0 : Int) != 0) then true else (bif U.getD i default == a then !(y.used == x.used && (y.old == x.old && (y.done == x.done && (y.n == x.n && (y.born == x.born && (y.mark == x.mark && true)))))) else false)) then true else (bif U.getD i default != a then !(y.used == z.used && (y.old == z.old && (y.done == z.done && (y.n == z.n && (y.born == z.born && (y.mark == z.mark && true)))))) else false)) = false := by
            rw [hyx, hyx, ← hu]
            by_cases e : u = a
            · have ey : y = x := by rw [hy, hH2, decide_eq_true e]; rfl
              subst e
              rw [ey]
              simp
            · have ey : y = z := by rw [hy, hH2, decide_eq_false e, hz]; rfl
              rw [ey]
              have e' : (u == a) = false := by simp [e]
              rw [e']
              simp
          show ABr (bif (bif (bif (0 : Int) != 0 then true else (0 : Int) != 0) then true else (bif U.getD i default == a then !(y.used == x.used && (y.old == x.old && (y.done == x.done && (y.n == x.n && (y.born == x.born && (y.mark == x.mark && true)))))) else false)) then true else (bif U.getD i default != a then !(y.used == z.used && (y.old == z.old && (y.done == z.done && (y.n == z.n && (y.born == z.born && (y.mark == z.mark && true)))))) else false)) _ _
          rw [hc]
          show ABr _ _ _
          refine ⟨fun h => absurd h (by decide), fun _ => ?_⟩
          show ARound _ _ _ _
          exact ⟨⟨i + 1, hlt⟩, by show U.length - (i + 1) < U.length - i; omega, [], .cons _ _ _ .same (.cons _ _ _ .same (.cons _ _ _ .same (.cons _ _ _ .same (.cons _ _ _ .same (.cons _ _ _ (.int_eq wi) .nil))))), .nil, rfl⟩
        · have hge : i = U.length := by simp at h; omega
          refine .mk _ _ (hHMay0_spec (putH g a x.word) hlb) rfl ?_
          rw [may_put hok, hok.may]
          show ABr _ _ _
          refine ⟨fun _ => ?_, fun h => absurd h (by decide)⟩
          refine .mk _ _ (Whole0_spec (putH g a x.word) hlb) rfl ?_
          rw [whole_put hok]
          refine .mk _ _ (Whole0_spec g hl) rfl ?_
          show ABr (wholeH g [] == wholeH g []) _ _
          rw [beq_self_eq_true]
          show ABr _ _ _
          refine ⟨fun _ => ?_, fun h => absurd h (by decide)⟩
          refine .mk _ _ (hUsed_spec (putH g a x.word) hlb) rfl ?_
          rw [used_put hok, ← hU]
          show ARet _ _ _
          refine ret_bo (x := ((U.length : Int) == (U.length : Int))) (by simp) ⟨rfl, rfl⟩
end Go.Abs
