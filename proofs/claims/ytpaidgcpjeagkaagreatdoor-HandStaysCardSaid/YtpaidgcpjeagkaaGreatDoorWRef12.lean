/- Walks: the document's threads. -/
import Derived.Test.YtpaidgcpjeagkaaGreatDoorWClone1
import Derived.Test.YtpaidgcpjeagkaaGreatDoorWStages
set_option linter.all false
set_option linter.unusedVariables false
set_option linter.unusedSimpArgs false
namespace Go.Abs
open Go.Proofs Go.Proofs.YtpaidgcpjeagkaaGreatDoor
set_option maxRecDepth 8000

def Thread.few (t : Thread) : Bool := decide (t.ops.length ≤ 220) && decide (t.cache.l0.length ≤ 70 ∧ t.cache.l1.length ≤ 70 ∧ t.cache.l2.length ≤ 70)

theorem Few12_spec (t : Thread) : Spec X 25 [] [t.tv] (Ret [] (.bo t.few)) := by
  refine spec_go X_ok Tryz.f25 (by kernel_rfl) (by kernel_rfl) (by kernel_rfl) fun _ _ => ⟨rfl, ?_⟩
  have e (n : Nat) : decide ((n : Int) ≤ 220) = decide (n ≤ 220) := by rw [decide_eq_decide]; omega
  show AIf (decide ((t.ops.length : Int) ≤ 220) = true ∧ True) _ _
  refine ⟨fun h => ?_, fun h => ?_⟩
  · show ACall _ _ _ _ _ _
    refine call_ret (Light_spec t.cache) rfl ?_
    show ARet _ _ _
    refine ret_bo (x := decide (t.cache.l0.length ≤ 70 ∧ t.cache.l1.length ≤ 70 ∧ t.cache.l2.length ≤ 70)) ?_ ⟨rfl, rfl⟩
    unfold Thread.few
    rw [e] at h
    rw [h.1, Bool.true_and]
  · show AOb (decide ((t.ops.length : Int) ≤ 220) = false) _
    refine ⟨by simpa using h, ?_⟩
    show ARet _ _ _
    refine ret_bo (x := false) ?_ ⟨rfl, rfl⟩
    unfold Thread.few
    rw [e] at h
    have : decide (t.ops.length ≤ 220) = false := by simpa using h
    rw [this, Bool.false_and]

theorem rOwn12_spec (t : Thread) (h : t.ok) : Spec X 37 [] [t.tv] (Ret [] t.tv) := by
  refine spec_go X_ok Tryz.f37 (by kernel_rfl) (by kernel_rfl) (by kernel_rfl) fun _ _ => ⟨rfl, ?_⟩
  show AOb (t.ops.length ≤ most) _
  refine ⟨h.1, ?_⟩
  show ACall _ _ _ _ _ _
  refine call_ret (rOwn_spec t.cache h.2) rfl ?_
  show ARet _ _ _
  refine ret1 (w := t.tv) (.agg _ _ ?_) ⟨rfl, rfl⟩
  repeat (first | exact .nil | refine .cons _ _ _ _ (.d _) ?_ | refine .cons _ _ _ _ (.frz _ _ rfl) ?_)

theorem Thread.ne {a b : Thread} : a = b ↔ (a.cache = b.cache ∧ a.live = b.live ∧ a.r0 = b.r0 ∧ a.r1 = b.r1 ∧ a.r2 = b.r2 ∧ a.r3 = b.r3 ∧ a.epoch = b.epoch ∧ a.stage = b.stage ∧ a.root = b.root ∧ a.pc = b.pc ∧ a.x = b.x ∧ a.y = b.y) ∧ a.ops = b.ops := by
  cases a; cases b; simp; constructor
  · rintro ⟨h1, h2, h3, h4, h5, h6, h7, h8, h9, h10, h11, h12, h13⟩
    simp [*]
  · rintro ⟨⟨h1, h2, h3, h4, h5, h6, h7, h8, h9, h10, h11, h12⟩, h13⟩
    simp [*]

abbrev hd12 (a b : Thread) : Bool := cond (cond (cond (cond (cond (!decide (a.cache = b.cache)) true (!(cond (cond (cond (cond (decide (a.live = b.live)) (decide (a.r0 = b.r0) && (decide (a.r1 = b.r1) && (decide (a.r2 = b.r2) && (decide (a.r3 = b.r3) && true)))) false) (decide (a.epoch = b.epoch)) false) (decide (a.stage = b.stage)) false) (decide (a.root = b.root)) false))) true (!decide (a.pc = b.pc))) true (!decide (a.x = b.x))) true (!decide (a.y = b.y))) true (!decide ((a.ops.length : Int) = (b.ops.length : Int)))

theorem hd12_false {a b : Thread} (h : hd12 a b = false) : (a.cache = b.cache ∧ a.live = b.live ∧ a.r0 = b.r0 ∧ a.r1 = b.r1 ∧ a.r2 = b.r2 ∧ a.r3 = b.r3 ∧ a.epoch = b.epoch ∧ a.stage = b.stage ∧ a.root = b.root ∧ a.pc = b.pc ∧ a.x = b.x ∧ a.y = b.y) ∧ a.ops.length = b.ops.length := by
  unfold hd12 at h
  simp at h
  exact ⟨by simp [h], by have := h.2; omega⟩

theorem hd12_true {a b : Thread} (h : hd12 a b = true) : a ≠ b := by
  rintro rfl
  unfold hd12 at h
  simp at h

theorem Op.same {x y : Op} (h : x.kind = y.kind ∧ x.a = y.a ∧ x.b = y.b ∧ x.c = y.c) : x = y := by
  cases x; cases y; simp at h; simp [h]

theorem rSame12_spec (a b : Thread) : Spec X 13 [] [a.tv, b.tv] (Ret [] (.bo (decide (a = b)))) := by
  refine spec_go X_ok Tryz.f13 (by kernel_rfl) (by kernel_rfl) (by kernel_rfl) fun hb _ => ⟨rfl, ?_⟩
  have hla : a.ops.length ≤ maxN := ((hb a.tv List.mem_cons_self : ∀ x ∈ (EK.enc .thread a).map CV.d, bdC x) (.d (.sl .op a.ops)) (List.mem_map.2 ⟨_, by simp [EK.enc], rfl⟩)).1
  unfold maxN at hla
  show ACall _ _ _ _ _ _
  refine call_ret (rSame_spec a.cache b.cache) rfl ?_
  show ABr (hd12 a b) _ _
  refine ⟨fun h => ?_, fun h => ?_⟩
  · show ARet _ _ _
    refine ret_bo ?_ ⟨rfl, rfl⟩
    rw [eq_comm, decide_eq_false_iff_not]
    exact hd12_true h
  · obtain ⟨hh, hlen⟩ := hd12_false h
    refine ⟨0, ALoop.inv (ι := {i : Nat // i ≤ a.ops.length ∧ a.ops.take i = b.ops.take i}) (fun i => ⟨[(2, .c (.ptr 0 0 0)), (3, .c (.ptr 1 0 0)), (7, .int i.1)], [(0, .vars ((EK.enc .thread a).map .d)), (1, .vars ((EK.enc .thread b).map .d))], 64⟩) (fun i => a.ops.length - i.1) ⟨0, by simp⟩ ?_ ?_⟩
    · exact ⟨[(32, 0), (64, 1)], .cons _ _ _ (.c _ _ (.ptr _ _ _ _ rfl)) (.cons _ _ _ (.c _ _ (.ptr _ _ _ _ rfl)) (.cons _ _ _ .same .nil)), .old 0 32 _ _ _ rfl rfl (.vars _ _ (LeL_refl rfl)) (.old 1 64 _ _ _ rfl rfl (.vars _ _ (LeL_refl rfl)) .nil), rfl⟩
    · rintro ⟨i, hi, he⟩
      show ABr _ _ _
      refine ⟨fun (h : decide ((i : Int) < (a.ops.length : Int)) = true) => ?_, fun (h : decide ((i : Int) < (a.ops.length : Int)) = false) => ?_⟩
      · have hlt : i < a.ops.length := by simpa using h
        show AOb ((0 : Int) ≤ (i : Int) ∧ (i : Int) < (a.ops.length : Int)) _
        refine ⟨by omega, ?_⟩
        show AOb ((0 : Int) ≤ (i : Int) ∧ (i : Int) < (b.ops.length : Int)) _
        refine ⟨by omega, ?_⟩
        have h2 : i < b.ops.length := by omega
        show ABr (!(decide ((a.ops.getD i default).kind = (b.ops.getD i default).kind) && (decide ((a.ops.getD i default).a = (b.ops.getD i default).a) && (decide ((a.ops.getD i default).b = (b.ops.getD i default).b) && (decide ((a.ops.getD i default).c = (b.ops.getD i default).c) && true))))) _ _
        rw [List.getD_eq_getElem?_getD, List.getD_eq_getElem?_getD, List.getElem?_eq_getElem hlt, List.getElem?_eq_getElem h2, Option.getD_some, Option.getD_some]
        refine ⟨fun h => ?_, fun h => ?_⟩
        · show ARet _ _ _
          refine ret_bo ?_ ⟨rfl, rfl⟩
          rw [eq_comm, decide_eq_false_iff_not]
          rintro rfl
          simp at h
        · show ARound _ _ _ _
          have hx : a.ops[i] = b.ops[i] := Op.same (by simpa using h)
          have hab : a.ops.take (i + 1) = b.ops.take (i + 1) := by
            rw [List.take_add_one, List.take_add_one, he, List.getElem?_eq_getElem hlt, List.getElem?_eq_getElem h2, hx]
          exact ⟨⟨i + 1, hlt, hab⟩, Nat.sub_lt_sub_left hlt (Nat.lt_succ_self i), [(0, 0), (1, 1)], .cons _ _ _ (.c _ _ (.ptr _ _ _ _ rfl)) (.cons _ _ _ (.c _ _ (.ptr _ _ _ _ rfl)) (.cons _ _ _ (.int_eq (by rw [wrap64] <;> simp <;> omega)) .nil)), .old 0 0 _ _ _ rfl rfl (.vars _ _ (LeL_refl rfl)) (.old 1 1 _ _ _ rfl rfl (.vars _ _ (LeL_refl rfl)) .nil), rfl⟩
      · show ARet _ _ _
        refine ret_bo ?_ ⟨rfl, rfl⟩
        have hge : i = a.ops.length := by simp at h; omega
        rw [eq_comm, decide_eq_true_iff, Thread.ne]
        refine ⟨hh, ?_⟩
        have := he
        rwa [hge, List.take_length, hlen, List.take_length] at this
end Go.Abs
