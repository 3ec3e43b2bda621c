/- Walks: all have answered; the example. -/
import Derived.Test.YtpaidgcpjeagkaaGreatDoorWHand
import Derived.Test.YtpaidgcpjeagkaaGreatDoorWArena1
import Derived.Test.YtpaidgcpjeagkaaGreatDoorWHand2
import Derived.Test.YtpaidgcpjeagkaaGreatDoorWShadeK
import Derived.Test.YtpaidgcpjeagkaaGreatDoorWRef12
set_option linter.all false
set_option linter.unusedVariables false
set_option linter.unusedSimpArgs false
namespace Go.Abs
open Go.Proofs Go.Proofs.YtpaidgcpjeagkaaGreatDoor
set_option maxRecDepth 8000

theorem call_fnT {g : Nat} {x : Thread} {cs : List DV} {h : Heap} {base : Nat} {k : TV → Heap → Prop} {b : Bool} (hp : Spec X g [] (x.tv :: capT cs) (Ret [] (.bo b))) (hk : k (.bo b) []) :
    ACall X g (x.tv :: capT cs) h base k := by
  refine call_ret (r := .bo b) ?_ (by simp [scalT, scal]) hk
  show Spec X g [] (x.tv :: (capT cs).map (lendT h)) _
  rw [lend_caps]
  exact hp

/-! Where a thread of a list is such. -/
theorem idxT_none {p : Thread → Bool} {l : List Thread} (h : ∀ x ∈ l, p x = false) : l.findIdx? p = none := by
  rw [List.findIdx?_eq_none_iff]
  exact h
theorem idxT_some {p : Thread → Bool} {l : List Thread} {i : Nat} (hi : i < l.length) (hj : ∀ j, j < i → p (l.getD j default) = false) (h : p (l.getD i default) = true) : l.findIdx? p = some i := by
  rw [List.findIdx?_eq_some_iff_getElem]
  refine ⟨hi, ?_, fun j hlt => ?_⟩
  · rw [List.getD_eq_getElem?_getD, List.getElem?_eq_getElem hi] at h
    exact h
  · have := hj j hlt
    rw [List.getD_eq_getElem?_getD, List.getElem?_eq_getElem (by omega)] at this
    simpa using this

theorem IndexT_spec (l : List Thread) (g : Nat) (cs : List DV) (p : Thread → Bool) (hp : ∀ x ∈ l, Spec X g [] (x.tv :: capT cs) (Ret [] (.bo (p x)))) :
    Spec X 40 [] [.c (.d (.sl .thread l)), .c (.d (.fn g [] cs))] (Ret [] (.int (idxI (l.findIdx? p)))) := by
  refine spec_go X_ok Tryz.f40 (by kernel_rfl) (by kernel_rfl) (by kernel_rfl) fun hb _ => ⟨rfl, ?_⟩
  have hla : l.length ≤ maxN := (hb (.c (.d (.sl .thread l))) (by simp)).1
  unfold maxN at hla
  show ∃ n, _
  refine ⟨0, ALoop.inv (ι := {i : Nat // i ≤ l.length ∧ ∀ j, j < i → p (l.getD j default) = false}) (fun i => ⟨[(0, .c (.d (.sl .thread l))), (1, .c (.d (.fn g [] cs))), (7, .int l.length), (8, .int i.1)], [], 32⟩) (fun i => l.length - i.1) ⟨0, Nat.zero_le _, fun j hj => absurd hj (by omega)⟩ ?_ ?_⟩
  · exact ⟨[], .cons _ _ _ .same (.cons _ _ _ .same (.cons _ _ _ .same (.cons _ _ _ .same .nil))), .nil, rfl⟩
  · rintro ⟨i, hi, hn⟩
    show ABr (decide ((i : Int) < (l.length : Int))) _ _
    refine ⟨fun h => ?_, fun h => ?_⟩
    · have hlt : i < l.length := by simpa using h
      show AOb ((0 : Int) ≤ (i : Int) ∧ (i : Int) < (l.length : Int)) _
      refine ⟨by omega, ?_⟩
      have hmem : l.getD i default ∈ l := by
        rw [List.getD_eq_getElem?_getD, List.getElem?_eq_getElem hlt]
        exact List.getElem_mem hlt
      refine call_fnT (hp (l.getD i default) hmem) ?_
      show ABr (p (l.getD i default)) _ _
      refine ⟨fun h => ?_, fun h => ?_⟩
      · show ARet _ _ _
        refine ret_int (x := (i : Int)) ?_ ⟨rfl, rfl⟩
        rw [idxT_some hlt hn h]
        rfl
      · show ARound _ _ _ _
        exact ⟨⟨i + 1, hlt, fun j hj => by
          by_cases e : j = i
          · subst e; exact h
          · exact hn j (by omega)⟩, by show l.length - (i + 1) < l.length - i; omega, [], .cons _ _ _ .same (.cons _ _ _ .same (.cons _ _ _ .same (.cons _ _ _ (.int_eq (wrapP (i := i) (by unfold maxN; omega))) .nil))), .nil, rfl⟩
    · have hge : i = l.length := by simp at h; omega
      show ARet _ _ _
      refine ret_int (x := -1) ?_ ⟨rfl, rfl⟩
      rw [idxT_none fun x hx => ?_]
      · rfl
      · obtain ⟨j, hj, e⟩ := List.mem_iff_getElem.1 hx
        have := hn j (by omega)
        rw [show l.getD j default = x from by rw [List.getD_eq_getElem?_getD, List.getElem?_eq_getElem hj, e]; rfl] at this
        exact this

theorem idxT_ge (p : Thread → Bool) (l : List Thread) : decide (idxI (l.findIdx? p) ≥ 0) = l.any p := by
  cases h : l.findIdx? p with
  | none =>
    rw [List.findIdx?_eq_none_iff] at h
    symm
    show l.any p = decide ((-1 : Int) ≥ 0)
    rw [show decide ((-1 : Int) ≥ 0) = false by decide, List.any_eq_false]
    intro x hx
    rw [h x hx]
    decide
  | some i =>
    rw [List.findIdx?_eq_some_iff_getElem] at h
    obtain ⟨h1, h2, _⟩ := h
    symm
    rw [List.any_eq_true.2 ⟨_, List.getElem_mem h1, h2⟩]
    show true = decide ((i : Int) ≥ 0)
    rw [decide_eq_true (by omega)]

theorem ContainsT_spec (l : List Thread) (g : Nat) (cs : List DV) (p : Thread → Bool) (hp : ∀ x ∈ l, Spec X g [] (x.tv :: capT cs) (Ret [] (.bo (p x)))) :
    Spec X 27 [] [.c (.d (.sl .thread l)), .c (.d (.fn g [] cs))] (Ret [] (.bo (l.any p))) := by
  refine spec_go X_ok Tryz.f27 (by kernel_rfl) (by kernel_rfl) (by kernel_rfl) fun hb _ => ⟨rfl, ?_⟩
  show ACall _ _ _ _ _ _
  refine call_ret (IndexT_spec l g cs p hp) rfl ?_
  show ARet _ _ _
  refine ret_bo (x := decide (idxI (l.findIdx? p) ≥ 0)) (idxT_ge p l) ⟨rfl, rfl⟩

theorem hAll1_spec (c : Col) (t : Thread) : Spec X 28 [] (t.tv :: capT [.rp c.enc]) (Ret [] (.bo (bif t.live then !answeredB c t else false))) := by
  refine spec_go X_ok Tryz.f28 (by kernel_rfl) (by kernel_rfl) (by kernel_rfl) fun hb _ => ⟨rfl, ?_⟩
  show AIf (t.live = true ∧ True) _ _
  by_cases hl : t.live = true
  · refine ⟨fun _ => ?_, fun h => absurd ⟨hl, trivial⟩ h⟩
    show ACall _ _ _ _ _ _
    refine call_ret (answered_spec c t) rfl ?_
    show ARet _ _ _
    refine ret_bo (x := !answeredB c t) ?_ ⟨rfl, rfl⟩
    rw [hl]
    rfl
  · refine ⟨fun h => absurd h.1 hl, fun _ => ?_⟩
    show AOb _ _
    refine ⟨by simpa using hl, ?_⟩
    show ARet _ _ _
    refine ret_bo (x := false) ?_ ⟨rfl, rfl⟩
    rw [show t.live = false by simpa using hl]
    rfl

theorem allB_any (c : Col) (l : List Thread) : (!l.any fun t => bif t.live then !answeredB c t else false) = allB c l := by
  unfold allB
  rw [List.not_any_eq_all_not]
  congr 1
  funext t
  cases t.live <;> simp

theorem hAll_spec (c : Col) (l : List Thread) : Spec X 9 [] [c.tv, .c (.d (.sl .thread l))] (Ret [] (.bo (allB c l))) := by
  refine spec_go X_ok Tryz.f9 (by kernel_rfl) (by kernel_rfl) (by kernel_rfl) fun hb hH => ⟨rfl, ?_⟩
  show ACall _ _ _ _ _ _
  refine call_ret (ContainsT_spec l 28 [.rp c.enc] (fun t => bif t.live then !answeredB c t else false) (fun x _ => hAll1_spec c x)) rfl ?_
  show ARet _ _ _
  refine ret_bo (x := !l.any fun t => bif t.live then !answeredB c t else false) (allB_any c l) ⟨rfl, rfl⟩

theorem hBegin1_spec (t : Thread) : Spec X 41 [] (t.tv :: capT []) (Ret [] (.bo t.live)) := by
  refine spec_go X_ok Tryz.f41 (by kernel_rfl) (by kernel_rfl) (by kernel_rfl) fun hb _ => ⟨rfl, ?_⟩
  show ARet _ _ _
  exact ret_d rfl ⟨rfl, rfl⟩

def Col.zero : Col := ⟨0, 0, false, [], false, 0, 0, 0, 0, false⟩
def begin0 (t : Thread) (e s : Int) : Thread := { t with live := true, r0 := 0, r1 := 0, r2 := 0, r3 := 0, epoch := e, stage := s, root := 0, pc := 0, x := 0, y := 0 }

theorem beginT_none {c : Col} {t : Thread} {l : List Thread} (h : l.findIdx? (·.live) = none) : beginT c t l = begin0 t (if c.phase = 0 then 0 else c.epoch) (wantsH c.phase) := by
  unfold beginT
  have : l.find? (·.live) = none := by rw [List.find?_eq_none]; rw [List.findIdx?_eq_none_iff] at h; intro x hx; rw [h x hx]; decide
  rw [this]
  rfl
theorem beginT_some {c : Col} {t : Thread} {l : List Thread} {i : Nat} (h : l.findIdx? (·.live) = some i) : i < l.length ∧ (l.getD i default).live = true ∧ (∀ j, j < i → (l.getD j default).live = false) ∧ beginT c t l = { begin0 t (l.getD i default).epoch (l.getD i default).stage with r0 := (l.getD i default).r0 } := by
  rw [List.findIdx?_eq_some_iff_getElem] at h
  obtain ⟨h1, h2, h3⟩ := h
  have hg : l.getD i default = l[i] := by rw [List.getD_eq_getElem?_getD, List.getElem?_eq_getElem h1]; rfl
  refine ⟨h1, by rw [hg]; exact h2, fun j hj => ?_, ?_⟩
  · have := h3 j hj
    rw [List.getD_eq_getElem?_getD, List.getElem?_eq_getElem (by omega)]
    simpa using this
  · unfold beginT
    have : l.find? (·.live) = some l[i] := by
      rw [List.find?_eq_some_iff_getElem]
      exact ⟨h2, i, h1, rfl, fun j hj => by simpa using h3 j hj⟩
    rw [this, hg]
    rfl

set_option maxRecDepth 60000 in
set_option maxHeartbeats 2000000 in
theorem Begin_spec (c : Col) (t : Thread) (l : List Thread) (ht : t.ok) : Spec X 19 [] [c.tv, t.tv, .c (.d (.sl .thread l))] (Ret [] (beginT c t l).tv) := by
  refine spec_go X_ok Tryz.f19 (by kernel_rfl) (by kernel_rfl) (by kernel_rfl) fun hb hH => ⟨rfl, ?_⟩
  show ACall _ _ _ _ _ _
  refine call_ret ((hown15_spec Hp.zero Col.zero t ⟨by decide, by decide, by decide, by decide, by decide, by decide⟩ (by decide) ht).args (.cons _ _ _ _ (.agg _ _ ?_) (.cons _ _ _ _ (.agg _ _ ?_) (.cons _ _ _ _ (.refl _) .nil)))) rfl ?_
  · repeat (first | exact .nil | refine .cons _ _ _ ?_ | refine .sl _ _ _ _ _ rfl ?_)
  · repeat (first | exact .nil | refine .cons _ _ _ ?_ | refine .sl _ _ _ _ _ rfl ?_)
  show ADCall _ _ _ _ _ _
  refine .mk _ _ (wants_spec c.phase) rfl ?_
  show ABr (decide (c.phase = 0)) _ _
  refine ⟨fun h => ?_, fun h => ?_⟩
  · show ACall _ _ _ _ _ _
    refine call_ret (IndexT_spec l 41 [] (·.live) (fun x _ => hBegin1_spec x)) rfl ?_
    cases hf : l.findIdx? (·.live) with
    | none =>
      rw [beginT_none hf, if_pos (by simpa using h)]
      show ABr _ _ _
      refine ⟨fun h => absurd h (by decide), fun _ => ?_⟩
      show ARet _ _ _
      exact ret_d rfl ⟨rfl, rfl⟩
    | some i =>
      obtain ⟨hi, _, _, e⟩ := beginT_some (c := c) (t := t) hf
      rw [e]
      show ABr (decide ((i : Int) ≥ 0)) _ _
      refine ⟨fun h' => ?_, fun h' => absurd h' (by simp)⟩
      show AOb ((0 : Int) ≤ (i : Int) ∧ (i : Int) < (l.length : Int)) _
      refine ⟨by omega, ?_⟩
      show AOb _ _
      refine ⟨by decide, ?_⟩
      show AOb ((0 : Int) ≤ (i : Int) ∧ (i : Int) < (l.length : Int)) _
      refine ⟨by omega, ?_⟩
      show AOb ((0 : Int) ≤ (i : Int) ∧ (i : Int) < (l.length : Int)) _
      refine ⟨by omega, ?_⟩
      show AOb _ _
      refine ⟨by decide, ?_⟩
      show ARet _ _ _
      exact ret_d rfl ⟨rfl, rfl⟩
  · show ACall _ _ _ _ _ _
    refine call_ret (IndexT_spec l 41 [] (·.live) (fun x _ => hBegin1_spec x)) rfl ?_
    cases hf : l.findIdx? (·.live) with
    | none =>
      rw [beginT_none hf, if_neg (by simpa using h)]
      show ABr _ _ _
      refine ⟨fun h => absurd h (by decide), fun _ => ?_⟩
      show ARet _ _ _
      exact ret_d rfl ⟨rfl, rfl⟩
    | some i =>
      obtain ⟨hi, _, _, e⟩ := beginT_some (c := c) (t := t) hf
      rw [e]
      show ABr (decide ((i : Int) ≥ 0)) _ _
      refine ⟨fun h' => ?_, fun h' => absurd h' (by simp)⟩
      show AOb ((0 : Int) ≤ (i : Int) ∧ (i : Int) < (l.length : Int)) _
      refine ⟨by omega, ?_⟩
      show AOb _ _
      refine ⟨by decide, ?_⟩
      show AOb ((0 : Int) ≤ (i : Int) ∧ (i : Int) < (l.length : Int)) _
      refine ⟨by omega, ?_⟩
      show AOb ((0 : Int) ≤ (i : Int) ∧ (i : Int) < (l.length : Int)) _
      refine ⟨by omega, ?_⟩
      show AOb _ _
      refine ⟨by decide, ?_⟩
      show ARet _ _ _
      exact ret_d rfl ⟨rfl, rfl⟩
end Go.Abs

namespace Go.Abs
open Go.Proofs Go.Proofs.YtpaidgcpjeagkaaGreatDoor
set_option maxRecDepth 8000

def few15 (g : Hp) (c : Col) (t : Thread) : Bool := fewH g && (decide (c.work.length ≤ 100) && t.few)

theorem few15_spec (g : Hp) (c : Col) (t : Thread) : Spec X 7 [] [g.tv, c.tv, t.tv] (Ret [] (.bo (few15 g c t))) := by
  refine spec_go X_ok Tryz.f7 (by kernel_rfl) (by kernel_rfl) (by kernel_rfl) fun hb hH => ⟨rfl, ?_⟩
  show ACall _ _ _ _ _ _
  refine call_ret (Few_spec g) rfl ?_
  unfold few15
  have e : decide ((c.work.length : Int) ≤ 100) = decide (c.work.length ≤ 100) := by rw [decide_eq_decide]; omega
  cases hf : fewH g with
  | true =>
    show AIf (decide ((c.work.length : Int) ≤ 100) = true ∧ True) _ _
    rw [e]
    refine ⟨fun h => ?_, fun h => ?_⟩
    · show ACall _ _ _ _ _ _
      refine call_ret (Few12_spec t) rfl ?_
      show ARet _ _ _
      refine ret_bo (x := t.few) ?_ ⟨rfl, rfl⟩
      rw [h.1]
      rfl
    · have h' : decide (c.work.length ≤ 100) = false := Bool.eq_false_iff.2 fun k => h ⟨k, trivial⟩
      show AOb _ _
      refine ⟨by first | exact h' | exact e.trans h', ?_⟩
      show ARet _ _ _
      refine ret_bo (x := false) ?_ ⟨rfl, rfl⟩
      rw [h']
      rfl
  | false =>
    show AIf _ _ _
    refine ⟨fun h => absurd h.1 Bool.false_ne_true, fun _ => ?_⟩
    show AOb _ _
    refine ⟨by rfl, ?_⟩
    show ARet _ _ _
    refine ret_bo (x := false) rfl ⟨rfl, rfl⟩

def c15 : Col := ⟨1, 1, false, [], false, 0, 0, 0, 0, false⟩
def t15 : Thread := ⟨true, 0, 0, 0, 0, ⟨[], [], []⟩, 0, 0, 0, [], 0, 0, 0⟩
def u15 : Thread := ⟨true, 0, 0, 0, 0, ⟨[], [], []⟩, 1, 1, 0, [], 0, 0, 0⟩
theorem v15 : newE 1 = 0 ∧ askedB c15 t15 = true ∧ ansT c15 t15 = u15 ∧ allB c15 [u15] = true ∧ allB c15 [u15, t15] = false := by decide +kernel
theorem n15 : (newH 1).light ∧ (newH 1).small := by
  have h : fewH (newH 1) = true := by decide +kernel
  exact ⟨few_light h, few_small h⟩

set_option maxHeartbeats 2000000 in
theorem awake15_spec : Spec X 6 [] [] (Ret [] (.bo true)) := by
  refine spec_go X_ok Tryz.f6 (by kernel_rfl) (by kernel_rfl) (by kernel_rfl) fun hb hH => ⟨rfl, ?_⟩
  obtain ⟨v1, v2, v3, v4, v5⟩ := v15
  show ACall _ _ _ _ _ _
  refine call_ret (hNew_spec 1) rfl ?_
  show ACall _ _ _ _ _ _
  refine call_ret ((Asked_spec c15 t15).args (.cons _ _ _ _ (.agg _ _ ?_) (.cons _ _ _ _ (.agg _ _ ?_) .nil))) rfl ?_
  · repeat (first | exact .nil | refine .cons _ _ _ ?_ | refine .sl _ _ _ _ _ rfl ?_)
  · repeat (first | exact .nil | refine .cons _ _ _ ?_ | refine .sl _ _ _ _ _ rfl ?_)
  show ACall _ _ _ _ _ _
  refine call_ret ((Answer_spec (newH 1) c15 t15 n15.1 n15.2 (by decide) ⟨by decide, by decide, by decide, by decide⟩).args (.cons _ _ _ _ (.refl _) (.cons _ _ _ _ (.agg _ _ ?_) (.cons _ _ _ _ (.agg _ _ ?_) .nil)))) rfl ?_
  · repeat (first | exact .nil | refine .cons _ _ _ ?_ | refine .sl _ _ _ _ _ rfl ?_)
  · repeat (first | exact .nil | refine .cons _ _ _ ?_ | refine .sl _ _ _ _ _ rfl ?_)
  rw [v1, v2, v3]
  show AIf _ _ _
  refine ⟨fun _ => ?_, fun h => absurd ⟨by decide, trivial⟩ h⟩
  show ACall _ _ _ _ _ _
  refine call_ret ((hAll_spec c15 [u15]).args (.cons _ _ _ _ (.agg _ _ ?_) (.cons _ _ _ _ (.refl _) .nil))) rfl ?_
  · repeat (first | exact .nil | refine .cons _ _ _ ?_ | refine .sl _ _ _ _ _ rfl ?_)
  rw [v4]
  show AIf _ _ _
  refine ⟨fun _ => ?_, fun h => absurd ⟨rfl, trivial⟩ h⟩
  show ACall _ _ _ _ _ _
  refine call_ret ((hAll_spec c15 [u15, t15]).args (.cons _ _ _ _ (.agg _ _ ?_) (.cons _ _ _ _ (.refl _) .nil))) rfl ?_
  · repeat (first | exact .nil | refine .cons _ _ _ ?_ | refine .sl _ _ _ _ _ rfl ?_)
  rw [v5]
  show ARet _ _ _
  refine ret_bo (x := true) rfl ⟨rfl, rfl⟩

/-! All have answered just where each has. -/
theorem allB_append (c : Col) (l m : List Thread) : allB c (l ++ m) = (allB c l && allB c m) := by unfold allB; rw [List.all_append]
theorem allB_one (c : Col) (t : Thread) : allB c [t] = (!t.live || answeredB c t) := by unfold allB; simp
theorem allB_take {l : List Thread} {i : Nat} (h : i < l.length) (c : Col) : allB c (l.take (i + 1)) = (allB c (l.take i) && allB c [l.getD i default]) := by
  rw [← allB_append]
  congr 1
  rw [List.getD_eq_getElem?_getD, List.getElem?_eq_getElem h, List.take_succ, List.getElem?_eq_getElem h]
  rfl

end Go.Abs
