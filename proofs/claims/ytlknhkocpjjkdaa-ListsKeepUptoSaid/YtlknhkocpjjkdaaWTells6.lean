/- Walks: the law ListsTells. -/
import Derived.Test.YtlknhkocpjjkdaaWRef6b
import Derived.Test.YtlknhkocpjjkdaaWAwake6
set_option linter.all false
set_option linter.unusedVariables false
set_option linter.unusedSimpArgs false
namespace Go.Abs
open Go.Proofs Go.Proofs.Ytlknhkocpjjkdaa
set_option maxRecDepth 8000

theorem few6_spec (l : Lists) : Spec X 33 [] [l.tv] (Ret [] (.bo (decide (l.l0.length ≤ 200 ∧ l.l1.length ≤ 200 ∧ l.l2.length ≤ 200)))) := by
  refine spec_go X_ok Try.f33 (by kernel_rfl) (by kernel_rfl) (by kernel_rfl) fun _ _ => ⟨rfl, ?_⟩
  show AOb _ _
  refine ⟨by decide, ?_⟩
  show AOb _ _
  refine ⟨fun _ => by decide, ?_⟩
  show AOb _ _
  refine ⟨fun _ => by decide, ?_⟩
  show ARet _ _ _
  refine ret_bo (x := bif (bif decide ((l.l0.length : Int) ≤ 200) then decide ((l.l1.length : Int) ≤ 200) else false) then decide ((l.l2.length : Int) ≤ 200) else false) ?_ ⟨rfl, rfl⟩
  have e (n : Nat) : decide ((n : Int) ≤ 200) = decide (n ≤ 200) := by rw [decide_eq_decide]; omega
  rw [e, e, e]
  by_cases h0 : l.l0.length ≤ 200 <;> by_cases h1 : l.l1.length ≤ 200 <;> simp [h0, h1]

/-- What each of them tells, whatever the class. -/
def cls (c : Int) : Prop := 0 ≤ c ∧ c ≤ 2
instance (c : Int) : Decidable (cls c) := inferInstanceAs (Decidable (_ ∧ _))

def pushL (l : Lists) (c : Int) (a : List Int) : Lists := if cls c then l.set_ c (l.at_ c ++ a) else Lists.zero
def clsE (c : Int) : Int := if cls c then 0 else 1
def popL (l : Lists) (c : Int) : Lists := if cls c ∧ 0 < (l.at_ c).length then l.set_ c ((l.at_ c).take ((l.at_ c).length - 1)) else Lists.zero
def popX (l : Lists) (c : Int) : Int := if cls c ∧ 0 < (l.at_ c).length then at0 (l.at_ c) ((l.at_ c).length - 1) else 0
def popE (l : Lists) (c : Int) : Int := if cls c then (if 0 < (l.at_ c).length then 0 else 3) else 1
def moveA (l : Lists) (c n : Int) : Lists := if cls c ∧ 0 ≤ n then l.set_ c ((l.at_ c).take (leftOf (l.at_ c).length n)) else Lists.zero
def moveB (l m : Lists) (c n : Int) : Lists := if cls c ∧ 0 ≤ n then m.set_ c (m.at_ c ++ ((l.at_ c).drop (leftOf (l.at_ c).length n)).reverse) else Lists.zero
def moveE (c n : Int) : Int := if cls c ∧ 0 ≤ n then 0 else 1
def partL (l : Lists) (c low high : Int) : Lists := if cls c then l.set_ c (stayOf (l.at_ c) low high (l.at_ c).length) else Lists.zero
def partO (l : Lists) (c low high : Int) : List Int := if cls c then outOf (l.at_ c) low high (l.at_ c).length else []

theorem Push_any (l : Lists) (c : Int) (a : List Int) (hok : l.ok) (hm : (l.at_ c).length + a.length ≤ most) : Spec X 31 [] [l.tv, .int c, .c (.d (.sl .int a))] (Ret [] (.tup [(pushL l c a).tv, .int (clsE c)])) := by
  unfold pushL clsE
  by_cases h : cls c
  · rw [if_pos h, if_pos h]; exact Push_spec l c a h hok hm
  · rw [if_neg h, if_neg h]; exact Push_bad l c a h
theorem rPush_any (l : Lists) (c : Int) (a : List Int) (hok : l.ok) (hm : (l.at_ c).length + a.length ≤ most) : Spec X 34 [] [l.tv, .int c, .c (.d (.sl .int a))] (Ret [] (.tup [(pushL l c a).tv, .int (clsE c)])) := by
  unfold pushL clsE
  by_cases h : cls c
  · rw [if_pos h, if_pos h]; exact rPush_spec l c a h hok hm
  · rw [if_neg h, if_neg h]; exact rPush_bad l c a h
theorem Pop_any (l : Lists) (c : Int) (hok : l.ok) : Spec X 32 [] [l.tv, .int c] (Ret [] (.tup [(popL l c).tv, .int (popX l c), .int (popE l c)])) := by
  unfold popL popX popE
  by_cases h : cls c
  · by_cases h0 : 0 < (l.at_ c).length
    · rw [if_pos ⟨h, h0⟩, if_pos ⟨h, h0⟩, if_pos h, if_pos h0]; exact Pop_spec l c h hok h0
    · rw [if_neg (fun e => h0 e.2), if_neg (fun e => h0 e.2), if_pos h, if_neg h0]; exact Pop_none l c h (List.eq_nil_of_length_eq_zero (by omega))
  · rw [if_neg (fun e => h e.1), if_neg (fun e => h e.1), if_neg h]; exact Pop_bad l c h
theorem rPop_any (l : Lists) (c : Int) (hok : l.ok) : Spec X 35 [] [l.tv, .int c] (Ret [] (.tup [(popL l c).tv, .int (popX l c), .int (popE l c)])) := by
  unfold popL popX popE
  by_cases h : cls c
  · by_cases h0 : 0 < (l.at_ c).length
    · rw [if_pos ⟨h, h0⟩, if_pos ⟨h, h0⟩, if_pos h, if_pos h0]; exact rPop_spec l c h hok h0
    · rw [if_neg (fun e => h0 e.2), if_neg (fun e => h0 e.2), if_pos h, if_neg h0]; exact rPop_none l c h (List.eq_nil_of_length_eq_zero (by omega))
  · rw [if_neg (fun e => h e.1), if_neg (fun e => h e.1), if_neg h]; exact rPop_bad l c h
theorem Move_any (l m : Lists) (c n : Int) (h1 : n ≤ 9223372036854775807) (hok : l.ok) (hok' : m.ok) (hsum : (l.at_ c).length + (m.at_ c).length ≤ most) : Spec X 29 [] [l.tv, m.tv, .int c, .int n]
    (Ret [] (.tup [(moveA l c n).tv, (moveB l m c n).tv, .int (moveE c n)])) := by
  unfold moveA moveB moveE
  by_cases h : cls c ∧ 0 ≤ n
  · rw [if_pos h, if_pos h, if_pos h]; exact Move_spec l m c n h.1 h.2 h1 hok hok' hsum
  · rw [if_neg h, if_neg h, if_neg h]; exact Move_bad l m c n (fun e => h ⟨⟨e.1, e.2.1⟩, e.2.2⟩)
theorem rMove_any (l m : Lists) (c n : Int) (h1 : n ≤ 9223372036854775807) (hok : l.ok) (hok' : m.ok) (hsum : (l.at_ c).length + (m.at_ c).length ≤ most) : Spec X 36 [] [l.tv, m.tv, .int c, .int n]
    (Ret [] (.tup [(moveA l c n).tv, (moveB l m c n).tv, .int (moveE c n)])) := by
  unfold moveA moveB moveE
  by_cases h : cls c ∧ 0 ≤ n
  · rw [if_pos h, if_pos h, if_pos h]; exact rMove_spec l m c n h.1 h.2 h1 hok hok' hsum
  · rw [if_neg h, if_neg h, if_neg h]; exact rMove_bad l m c n (fun e => h ⟨⟨e.1, e.2.1⟩, e.2.2⟩)
theorem Part_any (l : Lists) (c low high : Int) (hok : l.ok) : Spec X 37 [] [l.tv, .int c, .int low, .int high] (Ret [] (.tup [(partL l c low high).tv, .c (.d (.sl .int (partO l c low high))), .int (clsE c)])) := by
  unfold partL partO clsE
  by_cases h : cls c
  · rw [if_pos h, if_pos h, if_pos h]; exact Part_spec l c low high h hok
  · rw [if_neg h, if_neg h, if_neg h]; exact Part_bad l c low high h
theorem rPart_any (l : Lists) (c low high : Int) (hok : l.ok) : Spec X 38 [] [l.tv, .int c, .int low, .int high] (Ret [] (.tup [(partL l c low high).tv, .c (.d (.sl .int (partO l c low high))), .int (clsE c)])) := by
  unfold partL partO clsE
  by_cases h : cls c
  · rw [if_pos h, if_pos h, if_pos h]; exact rPart_spec l c low high h hok
  · rw [if_neg h, if_neg h, if_neg h]; exact rPart_bad l c low high h

theorem at_le {l : Lists} {n : Nat} (h : l.l0.length ≤ n ∧ l.l1.length ≤ n ∧ l.l2.length ≤ n) (c : Int) : (l.at_ c).length ≤ n := by
  unfold Lists.at_
  split
  · exact h.1
  · split
    · exact h.2.1
    · exact h.2.2

theorem wf_le {n : Int} (h : (Lit.int .i64 n).wf = true) : -9223372036854775808 ≤ n ∧ n ≤ 9223372036854775807 := by
  simp [Lit.wf, IntKind.min, IntKind.max, IntKind.signed, IntKind.bits] at h
  omega

theorem ListsTells_spec (l m : Lists) (c : Int) (n : Int) (hn : (Lit.int .i64 n).wf = true) (a : List Int) (low high : Int) : Spec X 10 [] [l.tv, m.tv, .int c, .int n, .c (.d (.sl .int a)), .int low, .int high] (Ret [] (.bo true)) := by
  refine spec_go X_ok Try.f10 (by kernel_rfl) (by kernel_rfl) (by kernel_rfl) fun _ _ => ⟨rfl, ?_⟩
  show ACall _ _ _ _ _ _
  refine call_ret awake6_spec rfl ?_
  show ACall _ _ _ _ _ _
  refine call_ret (few6_spec l) rfl ?_
  show ACall _ _ _ _ _ _
  refine call_ret (few6_spec m) rfl ?_
  show ABr (cond (cond (cond (!true) true (!decide (l.l0.length ≤ 200 ∧ l.l1.length ≤ 200 ∧ l.l2.length ≤ 200))) true (!decide (m.l0.length ≤ 200 ∧ m.l1.length ≤ 200 ∧ m.l2.length ≤ 200))) true (decide ((a.length : Int) > 50))) _ _
  refine ⟨fun _ => ?_, fun h1 => ?_⟩
  · show ARet _ _ _
    exact ret_bo (y := true) rfl ⟨rfl, rfl⟩
  · simp at h1
    obtain ⟨⟨hl, hm⟩, ha⟩ := h1
    have hal : a.length ≤ 50 := by omega
    have hlc := at_le hl c
    have hmc := at_le hm c
    have hok : l.ok := by unfold Lists.ok most; omega
    have hok' : m.ok := by unfold Lists.ok most; omega
    have hnn := (wf_le hn).2
    have hps : (l.at_ c).length + a.length ≤ most := by unfold most; omega
    have hsm : (l.at_ c).length + (m.at_ c).length ≤ most := by unfold most; omega
    show ACall _ _ _ _ _ _
    refine call_ret (Push_any l c a hok hps) rfl ?_
    show ACall _ _ _ _ _ _
    refine call_ret (rPush_any l c a hok hps) rfl ?_
    show ACall _ _ _ _ _ _
    refine call_ret (rSame_spec (pushL l c a) (pushL l c a)) rfl ?_
    show ACall _ _ _ _ _ _
    refine call_ret (Pop_any l c hok) rfl ?_
    show ACall _ _ _ _ _ _
    refine call_ret (rPop_any l c hok) rfl ?_
    show ACall _ _ _ _ _ _
    refine call_ret (rSame_spec (popL l c) (popL l c)) rfl ?_
    show ACall _ _ _ _ _ _
    refine call_ret (Move_any l m c n hnn hok hok' hsm) rfl ?_
    show ACall _ _ _ _ _ _
    refine call_ret (rMove_any l m c n hnn hok hok' hsm) rfl ?_
    show ACall _ _ _ _ _ _
    refine call_ret (rSame_spec (moveA l c n) (moveA l c n)) rfl ?_
    show ACall _ _ _ _ _ _
    refine call_ret (rSame_spec (moveB l m c n) (moveB l m c n)) rfl ?_
    show ACall _ _ _ _ _ _
    refine call_ret (Part_any l c low high hok) rfl ?_
    show ACall _ _ _ _ _ _
    refine call_ret (rPart_any l c low high hok) rfl ?_
    show ACall _ _ _ _ _ _
    refine call_ret (rSame_spec (partL l c low high) (partL l c low high)) rfl ?_
    show ACall _ _ _ _ _ _
    refine call_ret (Ints_spec (partO l c low high) (partO l c low high)) rfl ?_
    rw [decide_eq_true rfl, decide_eq_true rfl, decide_eq_true rfl, decide_eq_true rfl, decide_eq_true rfl, decide_eq_true rfl]
    show ARet _ _ _
    refine ret_bo (y := true) ?_ ⟨rfl, rfl⟩
    simp
end Go.Abs
