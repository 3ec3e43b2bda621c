/- Walks: threads, what they hold, and the document on them. -/
import Derived.Test.YtpaidgcpjeagkaaGreatDoorAbsBase1
import Derived.Test.YtpaidgcpjeagkaaGreatDoorWSort
set_option linter.all false
set_option linter.unusedVariables false
set_option linter.unusedSimpArgs false
namespace Go.Abs
open Go.Proofs Go.Proofs.YtpaidgcpjeagkaaGreatDoor
set_option maxRecDepth 8000


theorem in_spec (a b c : Int) : Spec X 35 [] [.int a, .int b, .int c] (Ret [] (.bo (decide (a ≥ b) && decide (a ≤ c)))) := by
  refine spec_go X_ok Tryz.f35 (by kernel_rfl) (by kernel_rfl) (by kernel_rfl) fun _ _ => ⟨rfl, ?_⟩
  show ARet _ _ _
  refine ret_bo ?_ ⟨rfl, rfl⟩
  cases decide (a ≥ b) <;> rfl

def Thread.reg (t : Thread) (r : Int) : Int := if r = 0 then t.r0 else if r = 1 then t.r1 else if r = 2 then t.r2 else t.r3
def Thread.setReg (t : Thread) (r a : Int) : Thread := if r = 0 then { t with r0 := a } else if r = 1 then { t with r1 := a } else if r = 2 then { t with r2 := a } else { t with r3 := a }

/-- No list of a thread is longer than a slice may grow. -/
def Thread.ok (t : Thread) : Prop := t.ops.length ≤ most ∧ t.cache.l0.length ≤ most ∧ t.cache.l1.length ≤ most ∧ t.cache.l2.length ≤ most

def Thread.zero : Thread := ⟨false, 0, 0, 0, 0, ⟨[], [], []⟩, 0, 0, 0, [], 0, 0, 0⟩

theorem ArgLe.thread {cs : List CV} {t : Thread} (h : EK.fit .thread cs = some t) : ArgLe (.agg cs) t.tv := .fit .thread cs t h

theorem May_spec (t : Thread) : Spec X 16 [] [t.tv] (Ret [] (.bo (decide (0 ≤ t.stage ∧ t.stage ≤ 3 ∧ 0 ≤ t.root ∧ t.root ≤ 3 ∧ 0 ≤ t.pc ∧ t.pc ≤ 4 ∧ (t.ops.length : Int) ≤ 200 ∧ (t.pc = 0 ∨ 0 < (t.ops.length : Int)))))) := by
  refine spec_go X_ok Tryz.f16 (by kernel_rfl) (by kernel_rfl) (by kernel_rfl) fun _ _ => ⟨rfl, ?_⟩
  show ACall _ _ _ _ _ _
  refine call_ret (in_spec _ _ _) rfl ?_
  show AIf ((!(decide (t.stage ≥ 0) && decide (t.stage ≤ 3))) = false ∧ True) _ _
  refine ⟨fun h1 => ?_, fun h1 => ?_⟩
  · show ACall _ _ _ _ _ _
    refine call_ret (in_spec _ _ _) rfl ?_
    show AIf ((!(decide (t.root ≥ 0) && decide (t.root ≤ 3))) = false ∧ True) _ _
    refine ⟨fun h2 => ?_, fun h2 => ?_⟩
    · show ACall _ _ _ _ _ _
      refine call_ret (in_spec _ _ _) rfl ?_
      show ABr (!(decide (t.pc ≥ 0) && decide (t.pc ≤ 4))) _ _
      refine ⟨fun h3 => ?_, fun h3 => ?_⟩
      · show ARet _ _ _
        refine ret_bo (y := decide (0 ≤ t.stage ∧ t.stage ≤ 3 ∧ 0 ≤ t.root ∧ t.root ≤ 3 ∧ 0 ≤ t.pc ∧ t.pc ≤ 4 ∧ (t.ops.length : Int) ≤ 200 ∧ (t.pc = 0 ∨ 0 < (t.ops.length : Int)))) ?_ ⟨rfl, rfl⟩
        simp at h1 h2 h3 ⊢
        omega
      · show ARet _ _ _
        refine ret_bo (x := bif decide ((t.ops.length : Int) ≤ 200) then (bif decide (t.pc = 0) then true else decide ((t.ops.length : Int) > 0)) else false) ?_ ⟨rfl, rfl⟩
        simp at h1 h2 h3
        simp [h1, h2, h3]
    · show AOb ((!(decide (t.root ≥ 0) && decide (t.root ≤ 3))) = true) _
      refine ⟨by simp at h2 ⊢; omega, ?_⟩
      show ABr true _ _
      refine ⟨fun _ => ?_, fun h => absurd h (by simp)⟩
      show ARet _ _ _
      refine ret_bo ?_ ⟨rfl, rfl⟩
      simp at h1 h2 ⊢
      omega
  · show AOb _ _
    refine ⟨by simp at h1 ⊢; omega, ?_⟩
    show AIf (true = false ∧ True) _ _
    refine ⟨fun h => absurd h.1 (by simp), fun _ => ?_⟩
    show AOb (true = true) _
    refine ⟨rfl, ?_⟩
    show ABr _ _ _
    refine ⟨fun _ => ?_, fun h => absurd h (by simp)⟩
    show ARet _ _ _
    refine ret_bo ?_ ⟨rfl, rfl⟩
    simp at h1 ⊢
    omega

def holdsOf (t : Thread) : List Int := [t.r0, t.r1, t.r2, t.r3, t.x, t.y].filter (· ≠ 0)

end Go.Abs

namespace Go.Abs
open Go.Proofs Go.Proofs.YtpaidgcpjeagkaaGreatDoor
set_option maxRecDepth 8000

def Thread.six (t : Thread) : List Int := [t.r0, t.r1, t.r2, t.r3, t.x, t.y]
def Thread.acc (t : Thread) (i : Nat) : List Int := (t.six.take i).filter fun a => decide (a ≠ 0)

theorem Thread.acc_len (t : Thread) (i : Nat) : (t.acc i).length ≤ 6 :=
  Nat.le_trans (List.length_filter_le _ _) (by simp [Thread.six]; omega)
theorem Thread.acc_step (t : Thread) (i : Nat) {a : Int} (h : t.six[i]? = some a) : t.acc (i + 1) = if a = 0 then t.acc i else t.acc i ++ [a] := by
  unfold Thread.acc
  rw [List.take_add_one, h, List.filter_append]
  by_cases ha : a = 0 <;> simp [ha]
theorem Thread.acc_most (t : Thread) (i : Nat) : (t.acc i).length + 1 ≤ most := by
  have := t.acc_len i
  unfold most
  omega

end Go.Abs

namespace Go.Abs
open Go.Proofs Go.Proofs.YtpaidgcpjeagkaaGreatDoor
set_option maxRecDepth 8000

def t216 : Thread := Thread.zero.setReg 2 16

end Go.Abs

namespace Go.Abs
open Go.Proofs Go.Proofs.YtpaidgcpjeagkaaGreatDoor
set_option maxRecDepth 8000

def Thread.few (t : Thread) : Bool := decide (t.ops.length ≤ 220) && decide (t.cache.l0.length ≤ 70 ∧ t.cache.l1.length ≤ 70 ∧ t.cache.l2.length ≤ 70)

theorem Few12_spec (t : Thread) : Spec X 25 [] [t.tv] (Ret [] (.bo t.few)) := by
  refine spec_go X_ok Tryz.f25 (by kernel_rfl) (by kernel_rfl) (by kernel_rfl) fun _ _ => ⟨rfl, ?_⟩
  have e (n : Nat) : decide ((n : Int) ≤ 220) = decide (n ≤ 220) := by rw [decide_eq_decide]; omega
  show AIf (decide ((t.ops.length : Int) ≤ 220) = true ∧ True) _ _
  refine ⟨fun h => ?_, fun h => ?_⟩
  · show ACall _ _ _ _ _ _
    refine call_ret (Light_spec t.cache) rfl ?_
    show ARet _ _ _
    refine ret_bo (x := decide (t.cache.l0.length ≤ 70 ∧ t.cache.l1.length ≤ 70 ∧ t.cache.l2.length ≤ 70)) ?_ ⟨rfl, rfl⟩
    unfold Thread.few
    rw [e] at h
    rw [h.1, Bool.true_and]
  · show AOb (decide ((t.ops.length : Int) ≤ 220) = false) _
    refine ⟨by simpa using h, ?_⟩
    show ARet _ _ _
    refine ret_bo (x := false) ?_ ⟨rfl, rfl⟩
    unfold Thread.few
    rw [e] at h
    have : decide (t.ops.length ≤ 220) = false := by simpa using h
    rw [this, Bool.false_and]

theorem rOwn12_spec (t : Thread) (h : t.ok) : Spec X 37 [] [t.tv] (Ret [] t.tv) := by
  refine spec_go X_ok Tryz.f37 (by kernel_rfl) (by kernel_rfl) (by kernel_rfl) fun _ _ => ⟨rfl, ?_⟩
  show AOb (t.ops.length ≤ most) _
  refine ⟨h.1, ?_⟩
  show ACall _ _ _ _ _ _
  refine call_ret (rOwn_spec t.cache h.2) rfl ?_
  show ARet _ _ _
  refine ret1 (w := t.tv) (.agg _ _ ?_) ⟨rfl, rfl⟩
  repeat (first | exact .nil | refine .cons _ _ _ _ (.d _) ?_ | refine .cons _ _ _ _ (.frz _ _ rfl) ?_)

theorem Thread.ne {a b : Thread} : a = b ↔ (a.cache = b.cache ∧ a.live = b.live ∧ a.r0 = b.r0 ∧ a.r1 = b.r1 ∧ a.r2 = b.r2 ∧ a.r3 = b.r3 ∧ a.epoch = b.epoch ∧ a.stage = b.stage ∧ a.root = b.root ∧ a.pc = b.pc ∧ a.x = b.x ∧ a.y = b.y) ∧ a.ops = b.ops := by
  cases a; cases b; simp; constructor
  · rintro ⟨h1, h2, h3, h4, h5, h6, h7, h8, h9, h10, h11, h12, h13⟩
    simp [*]
  · rintro ⟨⟨h1, h2, h3, h4, h5, h6, h7, h8, h9, h10, h11, h12⟩, h13⟩
    simp [*]

abbrev hd12 (a b : Thread) : Bool := cond (cond (cond (cond (cond (!decide (a.cache = b.cache)) true (!(cond (cond (cond (cond (decide (a.live = b.live)) (decide (a.r0 = b.r0) && (decide (a.r1 = b.r1) && (decide (a.r2 = b.r2) && (decide (a.r3 = b.r3) && true)))) false) (decide (a.epoch = b.epoch)) false) (decide (a.stage = b.stage)) false) (decide (a.root = b.root)) false))) true (!decide (a.pc = b.pc))) true (!decide (a.x = b.x))) true (!decide (a.y = b.y))) true (!decide ((a.ops.length : Int) = (b.ops.length : Int)))

theorem hd12_false {a b : Thread} (h : hd12 a b = false) : (a.cache = b.cache ∧ a.live = b.live ∧ a.r0 = b.r0 ∧ a.r1 = b.r1 ∧ a.r2 = b.r2 ∧ a.r3 = b.r3 ∧ a.epoch = b.epoch ∧ a.stage = b.stage ∧ a.root = b.root ∧ a.pc = b.pc ∧ a.x = b.x ∧ a.y = b.y) ∧ a.ops.length = b.ops.length := by
  unfold hd12 at h
  simp at h
  exact ⟨by simp [h], by have := h.2; omega⟩

theorem hd12_true {a b : Thread} (h : hd12 a b = true) : a ≠ b := by
  rintro rfl
  unfold hd12 at h
  simp at h

theorem Op.same {x y : Op} (h : x.kind = y.kind ∧ x.a = y.a ∧ x.b = y.b ∧ x.c = y.c) : x = y := by
  cases x; cases y; simp at h; simp [h]

theorem rSame12_spec (a b : Thread) : Spec X 13 [] [a.tv, b.tv] (Ret [] (.bo (decide (a = b)))) := by
  refine spec_go X_ok Tryz.f13 (by kernel_rfl) (by kernel_rfl) (by kernel_rfl) fun hb _ => ⟨rfl, ?_⟩
  have hla : a.ops.length ≤ maxN := ((hb a.tv List.mem_cons_self : ∀ x ∈ (EK.enc .thread a).map CV.d, bdC x) (.d (.sl .op a.ops)) (List.mem_map.2 ⟨_, by simp [EK.enc], rfl⟩)).1
  unfold maxN at hla
  show ACall _ _ _ _ _ _
  refine call_ret (rSame_spec a.cache b.cache) rfl ?_
  show ABr (hd12 a b) _ _
  refine ⟨fun h => ?_, fun h => ?_⟩
  · show ARet _ _ _
    refine ret_bo ?_ ⟨rfl, rfl⟩
    rw [eq_comm, decide_eq_false_iff_not]
    exact hd12_true h
  · obtain ⟨hh, hlen⟩ := hd12_false h
    refine ⟨0, ALoop.inv (ι := {i : Nat // i ≤ a.ops.length ∧ a.ops.take i = b.ops.take i}) (fun i => ⟨[(2, .c (.ptr 0 0 0)), (3, .c (.ptr 1 0 0)), (7, .int i.1)], [(0, .vars ((EK.enc .thread a).map .d)), (1, .vars ((EK.enc .thread b).map .d))], 64⟩) (fun i => a.ops.length - i.1) ⟨0, by simp⟩ ?_ ?_⟩
    · exact ⟨[(32, 0), (64, 1)], .cons _ _ _ (.c _ _ (.ptr _ _ _ _ rfl)) (.cons _ _ _ (.c _ _ (.ptr _ _ _ _ rfl)) (.cons _ _ _ .same .nil)), .old 0 32 _ _ _ rfl rfl (.vars _ _ (LeL_refl rfl)) (.old 1 64 _ _ _ rfl rfl (.vars _ _ (LeL_refl rfl)) .nil), rfl⟩
    · rintro ⟨i, hi, he⟩
      show ABr _ _ _
      refine ⟨fun (h : decide ((i : Int) < (a.ops.length : Int)) = true) => ?_, fun (h : decide ((i : Int) < (a.ops.length : Int)) = false) => ?_⟩
      · have hlt : i < a.ops.length := by simpa using h
        show AOb ((0 : Int) ≤ (i : Int) ∧ (i : Int) < (a.ops.length : Int)) _
        refine ⟨by omega, ?_⟩
        show AOb ((0 : Int) ≤ (i : Int) ∧ (i : Int) < (b.ops.length : Int)) _
        refine ⟨by omega, ?_⟩
        have h2 : i < b.ops.length := by omega
        show ABr (!(decide ((a.ops.getD i default).kind = (b.ops.getD i default).kind) && (decide ((a.ops.getD i default).a = (b.ops.getD i default).a) && (decide ((a.ops.getD i default).b = (b.ops.getD i default).b) && (decide ((a.ops.getD i default).c = (b.ops.getD i default).c) && true))))) _ _
        rw [List.getD_eq_getElem?_getD, List.getD_eq_getElem?_getD, List.getElem?_eq_getElem hlt, List.getElem?_eq_getElem h2, Option.getD_some, Option.getD_some]
        refine ⟨fun h => ?_, fun h => ?_⟩
        · show ARet _ _ _
          refine ret_bo ?_ ⟨rfl, rfl⟩
          rw [eq_comm, decide_eq_false_iff_not]
          rintro rfl
          simp at h
        · show ARound _ _ _ _
          have hx : a.ops[i] = b.ops[i] := Op.same (by simpa using h)
          have hab : a.ops.take (i + 1) = b.ops.take (i + 1) := by
            rw [List.take_add_one, List.take_add_one, he, List.getElem?_eq_getElem hlt, List.getElem?_eq_getElem h2, hx]
          exact ⟨⟨i + 1, hlt, hab⟩, Nat.sub_lt_sub_left hlt (Nat.lt_succ_self i), [(0, 0), (1, 1)], .cons _ _ _ (.c _ _ (.ptr _ _ _ _ rfl)) (.cons _ _ _ (.c _ _ (.ptr _ _ _ _ rfl)) (.cons _ _ _ (.int_eq (by rw [wrap64] <;> simp <;> omega)) .nil)), .old 0 0 _ _ _ rfl rfl (.vars _ _ (LeL_refl rfl)) (.old 1 1 _ _ _ rfl rfl (.vars _ _ (LeL_refl rfl)) .nil), rfl⟩
      · show ARet _ _ _
        refine ret_bo ?_ ⟨rfl, rfl⟩
        have hge : i = a.ops.length := by simp at h; omega
        rw [eq_comm, decide_eq_true_iff, Thread.ne]
        refine ⟨hh, ?_⟩
        have := he
        rwa [hge, List.take_length, hlen, List.take_length] at this
end Go.Abs
