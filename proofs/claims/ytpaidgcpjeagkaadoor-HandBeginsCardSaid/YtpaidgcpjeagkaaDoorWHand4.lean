/- Walks: the hand's example and its bounds. -/
import Derived.Test.YtpaidgcpjeagkaaDoorWHand2
import Derived.Test.YtpaidgcpjeagkaaDoorWHand3
import Derived.Test.YtpaidgcpjeagkaaDoorWShade2
import Derived.Test.YtpaidgcpjeagkaaDoorWRef12
set_option linter.all false
set_option linter.unusedVariables false
set_option linter.unusedSimpArgs false
namespace Go.Abs
open Go.Proofs Go.Proofs.YtpaidgcpjeagkaaDoor
set_option maxRecDepth 8000

def few15 (g : Hp) (c : Col) (t : Thread) : Bool := fewH g && (decide (c.work.length ≤ 100) && t.few)

theorem few15_spec (g : Hp) (c : Col) (t : Thread) : Spec X 9 [] [g.tv, c.tv, t.tv] (Ret [] (.bo (few15 g c t))) := by
  refine spec_go X_ok Tryd.f9 (by kernel_rfl) (by kernel_rfl) (by kernel_rfl) fun hb hH => ⟨rfl, ?_⟩
  show ACall _ _ _ _ _ _
  refine call_ret (Few_spec g) rfl ?_
  unfold few15
  have e : decide ((c.work.length : Int) ≤ 100) = decide (c.work.length ≤ 100) := by rw [decide_eq_decide]; omega
  cases hf : fewH g with
  | true =>
    show AIf (decide ((c.work.length : Int) ≤ 100) = true ∧ True) _ _
    rw [e]
    refine ⟨fun h => ?_, fun h => ?_⟩
    · show ACall _ _ _ _ _ _
      refine call_ret (Few12_spec t) rfl ?_
      show ARet _ _ _
      refine ret_bo (x := t.few) ?_ ⟨rfl, rfl⟩
      rw [h.1]
      rfl
    · have h' : decide (c.work.length ≤ 100) = false := Bool.eq_false_iff.2 fun k => h ⟨k, trivial⟩
      show AOb _ _
      refine ⟨by first | exact h' | exact e.trans h', ?_⟩
      show ARet _ _ _
      refine ret_bo (x := false) ?_ ⟨rfl, rfl⟩
      rw [h']
      rfl
  | false =>
    show AIf _ _ _
    refine ⟨fun h => absurd h.1 Bool.false_ne_true, fun _ => ?_⟩
    show AOb _ _
    refine ⟨by rfl, ?_⟩
    show ARet _ _ _
    refine ret_bo (x := false) rfl ⟨rfl, rfl⟩

def c15 : Col := ⟨1, 1, false, [], false, 0, 0, 0, 0, false⟩
def t15 : Thread := ⟨true, 0, 0, 0, 0, ⟨[], [], []⟩, 0, 0, 0, [], 0, 0, 0⟩
def u15 : Thread := ⟨true, 0, 0, 0, 0, ⟨[], [], []⟩, 1, 1, 0, [], 0, 0, 0⟩
theorem v15 : newE 1 = 0 ∧ askedB c15 t15 = true ∧ ansT c15 t15 = u15 ∧ allB c15 [u15] = true ∧ allB c15 [u15, t15] = false := by decide +kernel
theorem n15 : (newH 1).light ∧ (newH 1).small := by
  have h : fewH (newH 1) = true := by decide +kernel
  exact ⟨few_light h, few_small h⟩

set_option maxHeartbeats 2000000 in
theorem awake15_spec : Spec X 7 [] [] (Ret [] (.bo true)) := by
  refine spec_go X_ok Tryd.f7 (by kernel_rfl) (by kernel_rfl) (by kernel_rfl) fun hb hH => ⟨rfl, ?_⟩
  obtain ⟨v1, v2, v3, v4, v5⟩ := v15
  show ACall _ _ _ _ _ _
  refine call_ret (hNew_spec 1) rfl ?_
  show ACall _ _ _ _ _ _
  refine call_ret ((Asked_spec c15 t15).args (.cons _ _ _ _ (.agg _ _ ?_) (.cons _ _ _ _ (.agg _ _ ?_) .nil))) rfl ?_
  · repeat (first | exact .nil | refine .cons _ _ _ ?_ | refine .sl _ _ _ _ _ rfl ?_)
  · repeat (first | exact .nil | refine .cons _ _ _ ?_ | refine .sl _ _ _ _ _ rfl ?_)
  show ACall _ _ _ _ _ _
  refine call_ret ((Answer_spec (newH 1) c15 t15 n15.1 n15.2 (by decide) ⟨by decide, by decide, by decide, by decide⟩).args (.cons _ _ _ _ (.refl _) (.cons _ _ _ _ (.agg _ _ ?_) (.cons _ _ _ _ (.agg _ _ ?_) .nil)))) rfl ?_
  · repeat (first | exact .nil | refine .cons _ _ _ ?_ | refine .sl _ _ _ _ _ rfl ?_)
  · repeat (first | exact .nil | refine .cons _ _ _ ?_ | refine .sl _ _ _ _ _ rfl ?_)
  rw [v1, v2, v3]
  show AIf _ _ _
  refine ⟨fun _ => ?_, fun h => absurd ⟨by decide, trivial⟩ h⟩
  show ACall _ _ _ _ _ _
  refine call_ret ((hAll_spec c15 [u15]).args (.cons _ _ _ _ (.agg _ _ ?_) (.cons _ _ _ _ (.refl _) .nil))) rfl ?_
  · repeat (first | exact .nil | refine .cons _ _ _ ?_ | refine .sl _ _ _ _ _ rfl ?_)
  rw [v4]
  show AIf _ _ _
  refine ⟨fun _ => ?_, fun h => absurd ⟨rfl, trivial⟩ h⟩
  show ACall _ _ _ _ _ _
  refine call_ret ((hAll_spec c15 [u15, t15]).args (.cons _ _ _ _ (.agg _ _ ?_) (.cons _ _ _ _ (.refl _) .nil))) rfl ?_
  · repeat (first | exact .nil | refine .cons _ _ _ ?_ | refine .sl _ _ _ _ _ rfl ?_)
  rw [v5]
  show ARet _ _ _
  refine ret_bo (x := true) rfl ⟨rfl, rfl⟩

/-! All have answered just where each has. -/
theorem allB_append (c : Col) (l m : List Thread) : allB c (l ++ m) = (allB c l && allB c m) := by unfold allB; rw [List.all_append]
theorem allB_one (c : Col) (t : Thread) : allB c [t] = (!t.live || answeredB c t) := by unfold allB; simp
theorem allB_take {l : List Thread} {i : Nat} (h : i < l.length) (c : Col) : allB c (l.take (i + 1)) = (allB c (l.take i) && allB c [l.getD i default]) := by
  rw [← allB_append]
  congr 1
  rw [List.getD_eq_getElem?_getD, List.getElem?_eq_getElem h, List.take_succ, List.getElem?_eq_getElem h]
  rfl

theorem HandAll_spec (c : Col) (l m : List Thread) : Spec X 3 [] [c.tv, .c (.d (.sl .thread l)), .c (.d (.sl .thread m))] (Ret [] (.bo true)) := by
  refine spec_go X_ok Tryd.f3 (by kernel_rfl) (by kernel_rfl) (by kernel_rfl) fun hb hH => ⟨rfl, ?_⟩
  show ACall _ _ _ _ _ _
  refine call_ret (awake15_spec) rfl ?_
  show ABr (bif (bif !true then true else decide ((l.length : Int) > 6)) then true else decide ((m.length : Int) > 6)) _ _
  by_cases hl : (l.length : Int) > 6 ∨ (m.length : Int) > 6
  · have hc : (bif (bif !true then true else decide ((l.length : Int) > 6)) then true else decide ((m.length : Int) > 6)) = true := by
      rcases hl with h | h <;> simp [h]
    rw [hc]
    show ABr _ _ _
    refine ⟨fun _ => ?_, fun h => absurd h (by decide)⟩
    show ARet _ _ _
    exact ret_d rfl ⟨rfl, rfl⟩
  · have hc : (bif (bif !true then true else decide ((l.length : Int) > 6)) then true else decide ((m.length : Int) > 6)) = false := by
      simp; omega
    rw [hc]
    show ABr _ _ _
    refine ⟨fun h => absurd h (by decide), fun _ => ?_⟩
    show ACall _ _ _ _ _ _
    refine call_ret (hAll_spec c l) rfl ?_
    show ACall _ _ _ _ _ _
    refine call_ret (hAll_spec c m) rfl ?_
    have hll : l.length ≤ 6 := by omega
    have hml : m.length ≤ 6 := by omega
    show AOb (l.length ≤ most) _
    refine ⟨by unfold most; omega, ?_⟩
    show AOb (l.length + m.length ≤ most) _
    refine ⟨by unfold most; omega, ?_⟩
    show ADCall _ _ _ _ _ _
    refine .mk _ _ (hAll_spec c (l ++ m)) rfl ?_
    have e11 : true = allB c (l.take 0) := by rw [List.take_zero]; rfl
    show ∃ n, _
    refine ⟨0, ALoop.inv (ι := {i : Nat // i ≤ l.length}) (fun q => ⟨[(1, .c (.d (.sl .thread (l)))), (3, .c (.d (.rp (c.enc)))), (8, .bo (allB c l)), (9, .bo (allB c m)), (10, .bo (allB c (l ++ m))), (11, .bo (allB c (l.take q.1))), (12, .int (q.1))], [], 32⟩) (fun q => l.length - q.1) ⟨0, Nat.zero_le _⟩ ?_ ?_⟩
    · exact ⟨[], (by repeat' first | exact .nil | refine .cons _ _ _ ?_ ?_ | exact .bo_eq e11 | exact .same | exact .c _ _ (.own _ _ rfl) | exact .c _ _ (.ptr _ _ _ _ rfl) | exact .c _ _ (.frz _ _ rfl) | exact .any _), (by exact .nil), (by rfl)⟩
    rintro ⟨i, hi⟩
    show ABr (decide ((i : Int) < (l.length : Int))) _ _
    refine ⟨fun h => ?_, fun h => ?_⟩
    · have hlt : i < l.length := by simpa using h
      have wi : IntKind.i64.wrap ((i : Int) + 1) = ((i + 1 : Nat) : Int) := wrapP (i := i) (by unfold maxN; omega)
      have hst := allB_take hlt c
      have hone := allB_one c (l.getD i default)
      show ABr (allB c (l.take i)) _ _
      refine ⟨fun h => ?_, fun h => ?_⟩
      · rw [h, Bool.true_and] at hst
        show AOb ((0 : Int) ≤ (i : Int) ∧ (i : Int) < (l.length : Int)) _
        refine ⟨by omega, ?_⟩
        show ADCall _ _ _ _ _ _
        refine .mk _ _ (hAll_spec c [l.getD i default]) rfl ?_
        show AOb ((0 : Int) ≤ (i : Int) ∧ (i : Int) < (l.length : Int)) _
        refine ⟨by omega, ?_⟩
        show ABr (!(l.getD i default).live) _ _
        refine ⟨fun h => ?_, fun h => ?_⟩
        · have hlv : (l.getD i default).live = false := by simpa using h
          show AOb ((0 : Int) ≤ (i : Int) ∧ (i : Int) < (l.length : Int)) _
          refine ⟨by omega, ?_⟩
          show ADCall _ _ _ _ _ _
          refine .mk _ _ (hAll_spec c [l.getD i default]) rfl ?_
          rw [show allB c [l.getD i default] = true by rw [hone, hlv]; rfl]
          show ABr _ _ _
          refine ⟨fun h => absurd h (by decide), fun _ => ?_⟩
          show ARound _ _ _ _
          exact ⟨⟨i + 1, hlt⟩, (by dsimp only; omega), [], (by repeat' first | exact .nil | refine .cons _ _ _ ?_ ?_ | exact .int_eq wi | exact .bo_eq ((hst.trans (show allB c [l.getD i default] = true by rw [hone, hlv]; rfl)).symm) | exact .same | exact .c _ _ (.own _ _ rfl) | exact .c _ _ (.ptr _ _ _ _ rfl) | exact .c _ _ (.frz _ _ rfl) | exact .any _), (by exact .nil), (by rfl)⟩
        · show ABr _ _ _
          refine ⟨fun h => absurd h (by decide), fun _ => ?_⟩
          show ARound _ _ _ _
          exact ⟨⟨i + 1, hlt⟩, (by dsimp only; omega), [], (by repeat' first | exact .nil | refine .cons _ _ _ ?_ ?_ | exact .int_eq wi | exact .bo_eq hst.symm | exact .same | exact .c _ _ (.own _ _ rfl) | exact .c _ _ (.ptr _ _ _ _ rfl) | exact .c _ _ (.frz _ _ rfl) | exact .any _), (by exact .nil), (by rfl)⟩
      · rw [h, Bool.false_and] at hst
        show AOb ((0 : Int) ≤ (i : Int) ∧ (i : Int) < (l.length : Int)) _
        refine ⟨by omega, ?_⟩
        show ABr (!(l.getD i default).live) _ _
        refine ⟨fun h => ?_, fun h => ?_⟩
        · have hlv : (l.getD i default).live = false := by simpa using h
          show AOb ((0 : Int) ≤ (i : Int) ∧ (i : Int) < (l.length : Int)) _
          refine ⟨by omega, ?_⟩
          show ADCall _ _ _ _ _ _
          refine .mk _ _ (hAll_spec c [l.getD i default]) rfl ?_
          rw [show allB c [l.getD i default] = true by rw [hone, hlv]; rfl]
          show ABr _ _ _
          refine ⟨fun h => absurd h (by decide), fun _ => ?_⟩
          show ARound _ _ _ _
          exact ⟨⟨i + 1, hlt⟩, (by dsimp only; omega), [], (by repeat' first | exact .nil | refine .cons _ _ _ ?_ ?_ | exact .int_eq wi | exact .bo_eq (hst.symm) | exact .same | exact .c _ _ (.own _ _ rfl) | exact .c _ _ (.ptr _ _ _ _ rfl) | exact .c _ _ (.frz _ _ rfl) | exact .any _), (by exact .nil), (by rfl)⟩
        · show ABr _ _ _
          refine ⟨fun h => absurd h (by decide), fun _ => ?_⟩
          show ARound _ _ _ _
          exact ⟨⟨i + 1, hlt⟩, (by dsimp only; omega), [], (by repeat' first | exact .nil | refine .cons _ _ _ ?_ ?_ | exact .int_eq wi | exact .bo_eq hst.symm | exact .same | exact .c _ _ (.own _ _ rfl) | exact .c _ _ (.ptr _ _ _ _ rfl) | exact .c _ _ (.frz _ _ rfl) | exact .any _), (by exact .nil), (by rfl)⟩
    · have hfin : allB c (l.take i) = allB c l := by
        rw [show i = l.length by simp at h; omega, List.take_length]
      have hab := allB_append c l m
      have hc2 : (bif allB c (l ++ m) == (bif allB c l then allB c m else false) then allB c (l.take i) == allB c l else false) = true := by
        rw [hab, hfin]
        cases allB c l <;> simp
      show AIf ((bif allB c (l ++ m) == (bif allB c l then allB c m else false) then allB c (l.take i) == allB c l else false) = true ∧ True) _ _
      refine ⟨fun _ => ?_, fun h => absurd ⟨hc2, trivial⟩ h⟩
      show ACall _ _ _ _ _ _
      refine call_ret ((hAll_spec c []).args (.cons _ _ _ _ (.refl _) (.cons _ _ _ _ (.sl .thread [] _ rfl) .nil))) rfl ?_
      show ARet _ _ _
      refine ret_bo (x := true) rfl ⟨rfl, rfl⟩
end Go.Abs
