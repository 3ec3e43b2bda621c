/- Walks: the laws RegsHolds and RegsSame. -/
import Derived.Test.YtlknhkocpjjkdaaWPuts
set_option linter.all false
set_option linter.unusedVariables false
set_option linter.unusedSimpArgs false
namespace Go.Abs
open Go.Proofs Go.Proofs.Ytlknhkocpjjkdaa
set_option maxRecDepth 8000

theorem holdsLen (t : Thread) (r : Int) (hr : 0 ≤ r ∧ r ≤ 3) : (t.acc 6).length = ((t.setReg r 0).acc 6).length + if t.reg r = 0 then 0 else 1 := by
  have hr' : r = 0 ∨ r = 1 ∨ r = 2 ∨ r = 3 := by omega
  unfold Thread.acc
  rw [← List.countP_eq_length_filter, ← List.countP_eq_length_filter]
  rcases hr' with rfl | rfl | rfl | rfl <;> simp [Thread.six, Thread.setReg, Thread.reg, List.countP_cons] <;> split <;> omega

theorem holdsNo (t : Thread) (r : Int) (hr : 0 ≤ r ∧ r ≤ 3) : cond (cond (cond (!decide ((0 : Int) = 0)) true (decide (((t.acc 6).length : Int) > 6))) true (decide ((((t.setReg r 0).acc 6).length : Int) > ((t.acc 6).length : Int)))) true (!(decide ((((t.setReg r 0).acc 6).length : Int) = ((t.acc 6).length : Int)) == decide (t.reg r = 0))) = false := by
  have h1 := holdsLen t r hr
  have h2 := t.acc_len 6
  by_cases h : t.reg r = 0
  · rw [if_pos h] at h1
    simp [h]
    omega
  · rw [if_neg h] at h1
    simp [h]
    omega

theorem RegsHolds_spec (t : Thread) (r : Int) : Spec X 4 [] [t.tv, .int r] (Ret [] (.bo true)) := by
  refine spec_go X_ok Try.f4 (by kernel_rfl) (by kernel_rfl) (by kernel_rfl) fun _ _ => ⟨rfl, ?_⟩
  show ACall _ _ _ _ _ _
  refine call_ret awake12_spec rfl ?_
  show ACall _ _ _ _ _ _
  refine call_ret (Few12_spec t) rfl ?_
  show ABr (cond (cond (cond (!true) true (!t.few)) true (decide (r < 0))) true (decide (r > 3))) _ _
  refine ⟨fun _ => ?_, fun h1 => ?_⟩
  · show ARet _ _ _
    exact ret_bo (y := true) rfl ⟨rfl, rfl⟩
  · simp at h1
    have hok : t.ok := few_ok (by simp [h1])
    have hr' : r = 0 ∨ r = 1 ∨ r = 2 ∨ r = 3 := by omega
    show ACall _ _ _ _ _ _
    refine call_ret (Holds_spec t) rfl ?_
    show ACall _ _ _ _ _ _
    refine call_ret (Put_spec t r 0 hok (by omega)) rfl ?_
    show ACall _ _ _ _ _ _
    refine call_ret (Holds_spec (t.setReg r 0)) rfl ?_
    rcases hr' with rfl | rfl | rfl | rfl
    · show AOb _ _
      refine ⟨by first | decide | exact fun _ => by decide, ?_⟩
      show ABr (cond (cond (cond (!decide ((0 : Int) = 0)) true (decide (((t.acc 6).length : Int) > 6))) true (decide ((((t.setReg 0 0).acc 6).length : Int) > ((t.acc 6).length : Int)))) true (!(decide ((((t.setReg 0 0).acc 6).length : Int) = ((t.acc 6).length : Int)) == decide (t.reg 0 = 0)))) _ _
      refine ⟨fun h => absurd (h.symm.trans (holdsNo t 0 (by decide))) (by decide), fun _ => ?_⟩
      have hlen : (t.acc 6).length ≤ 6 := Thread.acc_len _ _
      have hnz : ∀ x ∈ t.acc 6, x ≠ 0 := fun x hx => by simpa using (List.mem_filter.1 hx).2
      generalize hl : t.acc 6 = l at hlen hnz ⊢
      show ∃ n, _
      refine ⟨0, ALoop.inv (ι := {i : Nat // i ≤ l.length}) (fun i => ⟨[(7, .c (.d (.sl .int l))), (11, .int i.1)], [], 96⟩) (fun i => l.length - i.1) ⟨0, Nat.zero_le _⟩ ?_ ?_⟩
      · exact ⟨[], .cons _ _ _ .same (.cons _ _ _ .same .nil), .nil, rfl⟩
      · rintro ⟨i, hi⟩
        show ABr _ _ _
        refine ⟨fun (h : decide ((i : Int) < (l.length : Int)) = true) => ?_, fun (h : decide ((i : Int) < (l.length : Int)) = false) => ?_⟩
        · have hlt : i < l.length := by simpa using h
          show AOb ((0 : Int) ≤ (i : Int) ∧ (i : Int) < (l.length : Int)) _
          refine ⟨by omega, ?_⟩
          show ABr (decide (l.getD i 0 = 0)) _ _
          refine ⟨fun h => ?_, fun _ => ?_⟩
          · rw [List.getD_eq_getElem?_getD, List.getElem?_eq_getElem hlt, Option.getD_some, decide_eq_true_iff] at h
            exact absurd h (hnz _ (List.getElem_mem hlt))
          · show ARound _ _ _ _
            exact ⟨⟨i + 1, hlt⟩, Nat.sub_lt_sub_left hlt (Nat.lt_succ_self i), [], .cons _ _ _ .same (.cons _ _ _ (.int_eq (by rw [wrap64] <;> simp <;> omega)) .nil), .nil, rfl⟩
        · show ARet _ _ _
          exact ret_bo (y := true) rfl ⟨rfl, rfl⟩
    · show AOb _ _
      refine ⟨by first | decide | exact fun _ => by decide, ?_⟩
      show ABr (cond (cond (cond (!decide ((0 : Int) = 0)) true (decide (((t.acc 6).length : Int) > 6))) true (decide ((((t.setReg 1 0).acc 6).length : Int) > ((t.acc 6).length : Int)))) true (!(decide ((((t.setReg 1 0).acc 6).length : Int) = ((t.acc 6).length : Int)) == decide (t.reg 1 = 0)))) _ _
      refine ⟨fun h => absurd (h.symm.trans (holdsNo t 1 (by decide))) (by decide), fun _ => ?_⟩
      have hlen : (t.acc 6).length ≤ 6 := Thread.acc_len _ _
      have hnz : ∀ x ∈ t.acc 6, x ≠ 0 := fun x hx => by simpa using (List.mem_filter.1 hx).2
      generalize hl : t.acc 6 = l at hlen hnz ⊢
      show ∃ n, _
      refine ⟨0, ALoop.inv (ι := {i : Nat // i ≤ l.length}) (fun i => ⟨[(7, .c (.d (.sl .int l))), (11, .int i.1)], [], 96⟩) (fun i => l.length - i.1) ⟨0, Nat.zero_le _⟩ ?_ ?_⟩
      · exact ⟨[], .cons _ _ _ .same (.cons _ _ _ .same .nil), .nil, rfl⟩
      · rintro ⟨i, hi⟩
        show ABr _ _ _
        refine ⟨fun (h : decide ((i : Int) < (l.length : Int)) = true) => ?_, fun (h : decide ((i : Int) < (l.length : Int)) = false) => ?_⟩
        · have hlt : i < l.length := by simpa using h
          show AOb ((0 : Int) ≤ (i : Int) ∧ (i : Int) < (l.length : Int)) _
          refine ⟨by omega, ?_⟩
          show ABr (decide (l.getD i 0 = 0)) _ _
          refine ⟨fun h => ?_, fun _ => ?_⟩
          · rw [List.getD_eq_getElem?_getD, List.getElem?_eq_getElem hlt, Option.getD_some, decide_eq_true_iff] at h
            exact absurd h (hnz _ (List.getElem_mem hlt))
          · show ARound _ _ _ _
            exact ⟨⟨i + 1, hlt⟩, Nat.sub_lt_sub_left hlt (Nat.lt_succ_self i), [], .cons _ _ _ .same (.cons _ _ _ (.int_eq (by rw [wrap64] <;> simp <;> omega)) .nil), .nil, rfl⟩
        · show ARet _ _ _
          exact ret_bo (y := true) rfl ⟨rfl, rfl⟩
    · show AOb _ _
      refine ⟨by first | decide | exact fun _ => by decide, ?_⟩
      show ABr (cond (cond (cond (!decide ((0 : Int) = 0)) true (decide (((t.acc 6).length : Int) > 6))) true (decide ((((t.setReg 2 0).acc 6).length : Int) > ((t.acc 6).length : Int)))) true (!(decide ((((t.setReg 2 0).acc 6).length : Int) = ((t.acc 6).length : Int)) == decide (t.reg 2 = 0)))) _ _
      refine ⟨fun h => absurd (h.symm.trans (holdsNo t 2 (by decide))) (by decide), fun _ => ?_⟩
      have hlen : (t.acc 6).length ≤ 6 := Thread.acc_len _ _
      have hnz : ∀ x ∈ t.acc 6, x ≠ 0 := fun x hx => by simpa using (List.mem_filter.1 hx).2
      generalize hl : t.acc 6 = l at hlen hnz ⊢
      show ∃ n, _
      refine ⟨0, ALoop.inv (ι := {i : Nat // i ≤ l.length}) (fun i => ⟨[(7, .c (.d (.sl .int l))), (11, .int i.1)], [], 96⟩) (fun i => l.length - i.1) ⟨0, Nat.zero_le _⟩ ?_ ?_⟩
      · exact ⟨[], .cons _ _ _ .same (.cons _ _ _ .same .nil), .nil, rfl⟩
      · rintro ⟨i, hi⟩
        show ABr _ _ _
        refine ⟨fun (h : decide ((i : Int) < (l.length : Int)) = true) => ?_, fun (h : decide ((i : Int) < (l.length : Int)) = false) => ?_⟩
        · have hlt : i < l.length := by simpa using h
          show AOb ((0 : Int) ≤ (i : Int) ∧ (i : Int) < (l.length : Int)) _
          refine ⟨by omega, ?_⟩
          show ABr (decide (l.getD i 0 = 0)) _ _
          refine ⟨fun h => ?_, fun _ => ?_⟩
          · rw [List.getD_eq_getElem?_getD, List.getElem?_eq_getElem hlt, Option.getD_some, decide_eq_true_iff] at h
            exact absurd h (hnz _ (List.getElem_mem hlt))
          · show ARound _ _ _ _
            exact ⟨⟨i + 1, hlt⟩, Nat.sub_lt_sub_left hlt (Nat.lt_succ_self i), [], .cons _ _ _ .same (.cons _ _ _ (.int_eq (by rw [wrap64] <;> simp <;> omega)) .nil), .nil, rfl⟩
        · show ARet _ _ _
          exact ret_bo (y := true) rfl ⟨rfl, rfl⟩
    · show AOb _ _
      refine ⟨by first | decide | exact fun _ => by decide, ?_⟩
      show ABr (cond (cond (cond (!decide ((0 : Int) = 0)) true (decide (((t.acc 6).length : Int) > 6))) true (decide ((((t.setReg 3 0).acc 6).length : Int) > ((t.acc 6).length : Int)))) true (!(decide ((((t.setReg 3 0).acc 6).length : Int) = ((t.acc 6).length : Int)) == decide (t.reg 3 = 0)))) _ _
      refine ⟨fun h => absurd (h.symm.trans (holdsNo t 3 (by decide))) (by decide), fun _ => ?_⟩
      have hlen : (t.acc 6).length ≤ 6 := Thread.acc_len _ _
      have hnz : ∀ x ∈ t.acc 6, x ≠ 0 := fun x hx => by simpa using (List.mem_filter.1 hx).2
      generalize hl : t.acc 6 = l at hlen hnz ⊢
      show ∃ n, _
      refine ⟨0, ALoop.inv (ι := {i : Nat // i ≤ l.length}) (fun i => ⟨[(7, .c (.d (.sl .int l))), (11, .int i.1)], [], 96⟩) (fun i => l.length - i.1) ⟨0, Nat.zero_le _⟩ ?_ ?_⟩
      · exact ⟨[], .cons _ _ _ .same (.cons _ _ _ .same .nil), .nil, rfl⟩
      · rintro ⟨i, hi⟩
        show ABr _ _ _
        refine ⟨fun (h : decide ((i : Int) < (l.length : Int)) = true) => ?_, fun (h : decide ((i : Int) < (l.length : Int)) = false) => ?_⟩
        · have hlt : i < l.length := by simpa using h
          show AOb ((0 : Int) ≤ (i : Int) ∧ (i : Int) < (l.length : Int)) _
          refine ⟨by omega, ?_⟩
          show ABr (decide (l.getD i 0 = 0)) _ _
          refine ⟨fun h => ?_, fun _ => ?_⟩
          · rw [List.getD_eq_getElem?_getD, List.getElem?_eq_getElem hlt, Option.getD_some, decide_eq_true_iff] at h
            exact absurd h (hnz _ (List.getElem_mem hlt))
          · show ARound _ _ _ _
            exact ⟨⟨i + 1, hlt⟩, Nat.sub_lt_sub_left hlt (Nat.lt_succ_self i), [], .cons _ _ _ .same (.cons _ _ _ (.int_eq (by rw [wrap64] <;> simp <;> omega)) .nil), .nil, rfl⟩
        · show ARet _ _ _
          exact ret_bo (y := true) rfl ⟨rfl, rfl⟩

end Go.Abs
