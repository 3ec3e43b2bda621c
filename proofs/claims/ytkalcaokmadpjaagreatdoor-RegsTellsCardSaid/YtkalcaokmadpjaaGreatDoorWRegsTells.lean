/- Walks: threads are as the document says. -/
import Derived.Test.YtkalcaokmadpjaaGreatDoorWRegsObject
import Derived.Test.YtkalcaokmadpjaaGreatDoorWPuts
set_option linter.all false
set_option linter.unusedVariables false
set_option linter.unusedSimpArgs false
namespace Go.Abs
open Go.Proofs Go.Proofs.YtkalcaokmadpjaaGreatDoor
set_option maxRecDepth 8000

theorem out3 {r : Int} : (bif decide (r < 0) then true else decide (r > 3)) = !decide (0 ≤ r ∧ r ≤ 3) := by
  by_cases h1 : r < 0
  · rw [decide_eq_true h1, decide_eq_false (show ¬ (0 ≤ r ∧ r ≤ 3) by omega)]; rfl
  · rw [decide_eq_false h1]
    by_cases h2 : r > 3
    · rw [decide_eq_true h2, decide_eq_false (show ¬ (0 ≤ r ∧ r ≤ 3) by omega)]; rfl
    · rw [decide_eq_false h2, decide_eq_true (show 0 ≤ r ∧ r ≤ 3 by omega)]; rfl

def getA (t : Thread) (r : Int) : Int := if 0 ≤ r ∧ r ≤ 3 then t.reg r else 0
def getE (r : Int) : Int := if 0 ≤ r ∧ r ≤ 3 then 0 else 1
def putT (t : Thread) (r a : Int) : Thread := if 0 ≤ r ∧ r ≤ 3 then t.setReg r a else Thread.zero

theorem GetA_spec (t : Thread) (r : Int) : Spec X 9 [] [t.tv, .int r] (Ret [] (.tup [.int (getA t r), .int (getE r)])) := by
  unfold getA getE
  by_cases h : 0 ≤ r ∧ r ≤ 3
  · rw [if_pos h, if_pos h]; exact Get_spec t r h
  · rw [if_neg h, if_neg h]; exact Get_bad t r h

theorem PutT_spec (t : Thread) (r a : Int) (hok : t.ok) : Spec X 11 [] [t.tv, .int r, .int a] (Ret [] (.tup [(putT t r a).tv, .int (getE r)])) := by
  unfold putT getE
  by_cases h : 0 ≤ r ∧ r ≤ 3
  · rw [if_pos h, if_pos h]; exact Put_spec t r a hok h
  · rw [if_neg h, if_neg h]; exact Put_bad t r a h

theorem rGet12_spec (t : Thread) (r : Int) : Spec X 10 [] [t.tv, .int r] (Ret [] (.tup [.int (getA t r), .int (getE r)])) := by
  refine spec_go X_ok Tryz.f10 (by kernel_rfl) (by kernel_rfl) (by kernel_rfl) fun hb hH => ⟨rfl, ?_⟩
  unfold getA getE
  show ABr (bif decide (r < 0) then true else decide (r > 3)) _ _
  rw [out3]
  by_cases h : 0 ≤ r ∧ r ≤ 3
  · rw [decide_eq_true h, if_pos h, if_pos h]
    show ABr _ _ _
    refine ⟨fun h => absurd h (by decide), fun _ => ?_⟩
    have hr : r = 0 ∨ r = 1 ∨ r = 2 ∨ r = 3 := by omega
    rcases hr with rfl | rfl | rfl | rfl
    · show AOb _ _
      refine ⟨by decide, ?_⟩
      show ARet _ _ _
      exact ret_d rfl ⟨rfl, rfl⟩
    · show AOb _ _
      refine ⟨by decide, ?_⟩
      show ARet _ _ _
      exact ret_d rfl ⟨rfl, rfl⟩
    · show AOb _ _
      refine ⟨by decide, ?_⟩
      show ARet _ _ _
      exact ret_d rfl ⟨rfl, rfl⟩
    · show AOb _ _
      refine ⟨by decide, ?_⟩
      show ARet _ _ _
      exact ret_d rfl ⟨rfl, rfl⟩
  · rw [decide_eq_false h, if_neg h, if_neg h]
    show ABr _ _ _
    refine ⟨fun _ => ?_, fun h => absurd h (by decide)⟩
    show ARet _ _ _
    exact ret_d rfl ⟨rfl, rfl⟩

theorem rPut12_spec (t : Thread) (r a : Int) (hok : t.ok) : Spec X 12 [] [t.tv, .int r, .int a] (Ret [] (.tup [(putT t r a).tv, .int (getE r)])) := by
  refine spec_go X_ok Tryz.f12 (by kernel_rfl) (by kernel_rfl) (by kernel_rfl) fun hb hH => ⟨rfl, ?_⟩
  unfold putT getE
  show ABr (bif decide (r < 0) then true else decide (r > 3)) _ _
  rw [out3]
  by_cases h : 0 ≤ r ∧ r ≤ 3
  · rw [decide_eq_true h, if_pos h, if_pos h]
    show ABr _ _ _
    refine ⟨fun h => absurd h (by decide), fun _ => ?_⟩
    show ACall _ _ _ _ _ _
    refine call_ret (rOwn12_spec t hok) rfl ?_
    have hr : r = 0 ∨ r = 1 ∨ r = 2 ∨ r = 3 := by omega
    rcases hr with rfl | rfl | rfl | rfl
    · show AOb _ _
      refine ⟨by decide, ?_⟩
      show ARet _ _ _
      exact ret_d rfl ⟨rfl, rfl⟩
    · show AOb _ _
      refine ⟨by decide, ?_⟩
      show ARet _ _ _
      exact ret_d rfl ⟨rfl, rfl⟩
    · show AOb _ _
      refine ⟨by decide, ?_⟩
      show ARet _ _ _
      exact ret_d rfl ⟨rfl, rfl⟩
    · show AOb _ _
      refine ⟨by decide, ?_⟩
      show ARet _ _ _
      exact ret_d rfl ⟨rfl, rfl⟩
  · rw [decide_eq_false h, if_neg h, if_neg h]
    show ABr _ _ _
    refine ⟨fun _ => ?_, fun h => absurd h (by decide)⟩
    show ARet _ _ _
    refine ⟨[], [], [Thread.zero.tv, .int 1], .cons _ _ _ _ (.agg _ _ ?_) (.cons _ _ _ _ .same .nil), .nil, rfl, ⟨rfl, rfl⟩⟩
    repeat' first | exact .nil | refine .cons _ _ _ _ ?_ ?_ | exact .d _ | exact .nilsl _

theorem rObject12_spec (g : Hp) (t : Thread) (r : Int) (hl : g.light) (hw : ∀ x ∈ g.w, I64 x) : Spec X 15 [] [g.tv, t.tv, .int r] (Ret [] (.tup [.int (objA g t r), .int (objN g t r), .int (objE g t r)])) := by
  refine spec_go X_ok Tryz.f15 (by kernel_rfl) (by kernel_rfl) (by kernel_rfl) fun hb hH => ⟨rfl, ?_⟩
  unfold objA objN objE
  show ACall _ _ _ _ _ _
  refine call_ret (rGet12_spec t r) rfl ?_
  unfold getA getE
  by_cases h : 0 ≤ r ∧ r ≤ 3
  · rw [if_pos h, if_pos h, if_pos h, if_pos h, if_pos h]
    show ABr _ _ _
    refine ⟨fun h => absurd h (by decide), fun _ => ?_⟩
    show ACall _ _ _ _ _ _
    refine call_ret (rHead7_spec g (t.reg r) hl hw) rfl ?_
    by_cases h0 : headE g (t.reg r) = 0
    · rw [if_pos h0, if_pos h0, if_pos h0, h0]
      show ABr _ _ _
      refine ⟨fun h => absurd h (by decide), fun _ => ?_⟩
      show ARet _ _ _
      exact ret_d rfl ⟨rfl, rfl⟩
    · rw [if_neg h0, if_neg h0, if_neg h0]
      show ABr _ _ _
      refine ⟨fun _ => ?_, fun h => absurd h (by simpa using h0)⟩
      show ARet _ _ _
      exact ret_d rfl ⟨rfl, rfl⟩
  · rw [if_neg h, if_neg h, if_neg h, if_neg h, if_neg h]
    show ABr _ _ _
    refine ⟨fun _ => ?_, fun h => absurd h (by decide)⟩
    show ARet _ _ _
    exact ret_d rfl ⟨rfl, rfl⟩

theorem rHolds12_spec (t : Thread) : Spec X 18 [] [t.tv] (Ret [] (.c (.d (.sl .int (t.acc 6))))) := by
  refine spec_go X_ok Tryz.f18 (by kernel_rfl) (by kernel_rfl) (by kernel_rfl) fun hb hH => ⟨rfl, ?_⟩
  show AOb _ _
  refine ⟨by decide, ?_⟩
  show AOb _ _
  refine ⟨by decide, ?_⟩
  show AOb _ _
  refine ⟨by decide, ?_⟩
  show AOb _ _
  refine ⟨by decide, ?_⟩
  show ∃ n, _
  refine ⟨0, ALoop.inv (ι := {i : Nat // i ≤ 6}) (fun q => ⟨[(3, .c (.d (.sl .int (t.six)))), (4, .c (.own 1)), (5, .int (q.1))], [(1, .data .int (t.acc q.1))], 64⟩) (fun q => 6 - q.1) ⟨0, by omega⟩ ?_ ?_⟩
  · exact ⟨[], (by repeat' first | exact .nil | refine .cons _ _ _ ?_ ?_ | exact .c _ _ (.nilown 1 .int rfl rfl) | exact .same | exact .c _ _ (.own _ _ rfl) | exact .c _ _ (.ptr _ _ _ _ rfl) | exact .c _ _ (.frz _ _ rfl) | exact .any _), (by exact .new 1 .int _ rfl .nil), (by rfl)⟩
  rintro ⟨i, hi⟩
  have h6 : t.six.length = 6 := rfl
  show ABr (decide ((i : Int) < 6)) _ _
  refine ⟨fun h => ?_, fun h => ?_⟩
  · have hlt : i < 6 := by have := of_decide_eq_true h; omega
    have wi : IntKind.i64.wrap ((i : Int) + 1) = ((i + 1 : Nat) : Int) := wrapP (i := i) (by unfold maxN; omega)
    have hst := t.acc_step i (a := t.six.getD i default) (by rw [List.getD_eq_getElem?_getD, List.getElem?_eq_getElem (by omega)]; rfl)
    show AOb ((0 : Int) ≤ (i : Int) ∧ (i : Int) < 6) _
    refine ⟨by omega, ?_⟩
    show ABr (t.six.getD i default != 0) _ _
    refine ⟨fun h => ?_, fun h => ?_⟩
    · rw [if_neg (show ¬ t.six.getD i default = 0 by simpa using h)] at hst
      show AOb ((0 : Int) ≤ (i : Int) ∧ (i : Int) < 6) _
      refine ⟨by omega, ?_⟩
      show AOb ((t.acc i).length + 1 ≤ most) _
      refine ⟨t.acc_most i, ?_⟩
      show ARound _ _ _ _
      exact ⟨⟨i + 1, hlt⟩, (by dsimp only; omega), [(_, 1)], (by repeat' first | exact .nil | refine .cons _ _ _ ?_ ?_ | exact .c _ _ (.own1 _ _) | exact .int_eq wi | exact .same | exact .c _ _ (.own _ _ rfl) | exact .c _ _ (.ptr _ _ _ _ rfl) | exact .c _ _ (.frz _ _ rfl) | exact .any _), (by exact .old 1 _ _ _ _ rfl rfl (.data_eq hst.symm) .nil), (by rfl)⟩
    · rw [if_pos (show t.six.getD i default = 0 by simpa using h)] at hst
      show ARound _ _ _ _
      exact ⟨⟨i + 1, hlt⟩, (by dsimp only; omega), [(1, 1)], (by repeat' first | exact .nil | refine .cons _ _ _ ?_ ?_ | exact .int_eq wi | exact .same | exact .c _ _ (.own _ _ rfl) | exact .c _ _ (.ptr _ _ _ _ rfl) | exact .c _ _ (.frz _ _ rfl) | exact .any _), (by exact .old 1 1 _ _ _ rfl rfl (.data_eq hst.symm) .nil), (by rfl)⟩
  · have hfin : t.acc i = t.acc 6 := by rw [show i = 6 by have := of_decide_eq_false h; omega]
    show ARet _ _ _
    exact ret1 (.frz (k := .int) (l := t.acc i) rfl hfin) ⟨rfl, rfl⟩

theorem rMay12_spec (t : Thread) : Spec X 20 [] [t.tv] (Ret [] (.bo (decide (0 ≤ t.stage ∧ t.stage ≤ 3 ∧ 0 ≤ t.root ∧ t.root ≤ 3 ∧ 0 ≤ t.pc ∧ t.pc ≤ 4 ∧ (t.ops.length : Int) ≤ 200 ∧ (t.pc = 0 ∨ 0 < (t.ops.length : Int)))))) := by
  refine spec_go X_ok Tryz.f20 (by kernel_rfl) (by kernel_rfl) (by kernel_rfl) fun hb hH => ⟨rfl, ?_⟩
  show ABr (bif (bif (bif (bif (bif (bif decide (t.stage < 0) then true else decide (t.stage > 3)) then true else decide (t.root < 0)) then true else decide (t.root > 3)) then true else decide (t.pc < 0)) then true else decide (t.pc > 4)) then true else decide ((t.ops.length : Int) > 200)) _ _
  refine ⟨fun h => ?_, fun h => ?_⟩
  · show ARet _ _ _
    refine ret_bo (x := false) ?_ ⟨rfl, rfl⟩
    simp [Bool.cond_eq_ite] at h
    symm
    apply decide_eq_false
    omega
  · show ARet _ _ _
    refine ret_bo (x := bif decide (t.pc = 0) then true else decide ((t.ops.length : Int) ≥ 1)) ?_ ⟨rfl, rfl⟩
    simp [Bool.cond_eq_ite] at h
    rw [Bool.eq_iff_iff]
    simp [Bool.cond_eq_ite]
    omega

theorem rArmed12_spec (c : Col) (t : Thread) : Spec X 22 [] [c.tv, t.tv] (Ret [] (.bo (decide (t.epoch = c.epoch ∧ 1 ≤ c.phase ∧ c.phase ≤ 5)))) := by
  refine spec_go X_ok Tryz.f22 (by kernel_rfl) (by kernel_rfl) (by kernel_rfl) fun hb hH => ⟨rfl, ?_⟩
  show ARet _ _ _
  refine ret_bo (x := bif (bif decide (t.epoch = c.epoch) then decide (c.phase ≥ 1) else false) then decide (c.phase ≤ 5) else false) ?_ ⟨rfl, rfl⟩
  rw [Bool.eq_iff_iff]
  simp [Bool.cond_eq_ite]
  omega

theorem rBlack12_spec (c : Col) (t : Thread) : Spec X 24 [] [c.tv, t.tv] (Ret [] (.bo (decide (t.epoch = c.epoch ∧ t.stage = 3 ∧ c.phase ≠ 0)))) := by
  refine spec_go X_ok Tryz.f24 (by kernel_rfl) (by kernel_rfl) (by kernel_rfl) fun hb hH => ⟨rfl, ?_⟩
  show ARet _ _ _
  refine ret_bo (x := bif (bif decide (t.epoch = c.epoch) then decide (t.stage = 3) else false) then c.phase != 0 else false) ?_ ⟨rfl, rfl⟩
  rw [Bool.eq_iff_iff]
  simp [Bool.cond_eq_ite]
  omega

theorem RegsTells_spec (g : Hp) (hw : ∀ x ∈ g.w, I64 x) (c : Col) (t : Thread) (r a : Int) : Spec X 3 [] [g.tv, c.tv, t.tv, .int r, .int a] (Ret [] (.bo true)) := by
  refine spec_go X_ok Tryz.f3 (by kernel_rfl) (by kernel_rfl) (by kernel_rfl) fun hb hH => ⟨rfl, ?_⟩
  show ACall _ _ _ _ _ _
  refine call_ret (awake12_spec) rfl ?_
  show ACall _ _ _ _ _ _
  refine call_ret (Few_spec g) rfl ?_
  show ACall _ _ _ _ _ _
  refine call_ret (Few12_spec t) rfl ?_
  show ABr (bif (bif !true then true else !fewH g) then true else !t.few) _ _
  refine ⟨fun h => ?_, fun h => ?_⟩
  · show ARet _ _ _
    exact ret_d rfl ⟨rfl, rfl⟩
  have hc : fewH g = true ∧ t.few = true := by
    cases hf : fewH g with
    | false => rw [hf] at h; exact absurd h (by simp)
    | true => rw [hf] at h; exact ⟨rfl, by simpa using h⟩
  have hl := few_light hc.1
  have hok := few_ok hc.2
  show ACall _ _ _ _ _ _
  refine call_ret (GetA_spec t r) rfl ?_
  show ACall _ _ _ _ _ _
  refine call_ret (rGet12_spec t r) rfl ?_
  show ACall _ _ _ _ _ _
  refine call_ret (PutT_spec t r a hok) rfl ?_
  show ACall _ _ _ _ _ _
  refine call_ret (rPut12_spec t r a hok) rfl ?_
  show ACall _ _ _ _ _ _
  refine call_ret (rSame12_spec (putT t r a) (putT t r a)) rfl ?_
  rw [decide_eq_true rfl]
  show ACall _ _ _ _ _ _
  refine call_ret (Object_spec g t r hl) rfl ?_
  show ACall _ _ _ _ _ _
  refine call_ret (rObject12_spec g t r hl hw) rfl ?_
  show ADCall _ _ _ _ _ _
  refine .mk _ _ (Holds_spec t) rfl ?_
  show ADCall _ _ _ _ _ _
  refine .mk _ _ (rHolds12_spec t) rfl ?_
  show ADCall _ _ _ _ _ _
  refine .mk _ _ (Ints_spec (t.acc 6) (t.acc 6)) rfl ?_
  rw [decide_eq_true rfl]
  show ABr _ _ _
  refine ⟨fun _ => ?_, fun h => absurd h (by simp)⟩
  show ADCall _ _ _ _ _ _
  refine .mk _ _ (May_spec t) rfl ?_
  show ADCall _ _ _ _ _ _
  refine .mk _ _ (rMay12_spec t) rfl ?_
  show ABr _ _ _
  refine ⟨fun _ => ?_, fun h => absurd h (by simp)⟩
  show ADCall _ _ _ _ _ _
  refine .mk _ _ (Armed_spec c t) rfl ?_
  show ADCall _ _ _ _ _ _
  refine .mk _ _ (rArmed12_spec c t) rfl ?_
  show ABr _ _ _
  refine ⟨fun _ => ?_, fun h => absurd h (by simp)⟩
  show ADCall _ _ _ _ _ _
  refine .mk _ _ (Black_spec c t) rfl ?_
  show ADCall _ _ _ _ _ _
  refine .mk _ _ (rBlack12_spec c t) rfl ?_
  show ARet _ _ _
  refine ret_bo (x := decide (t.epoch = c.epoch ∧ t.stage = 3 ∧ c.phase ≠ 0) == decide (t.epoch = c.epoch ∧ t.stage = 3 ∧ c.phase ≠ 0)) ?_ ⟨rfl, rfl⟩
  simp
end Go.Abs
