/- Walks: the program's lists of free cells. -/
import Derived.Test.YtlknhkocpjjkdaaWSl
import Derived.Test.YtlknhkocpjjkdaaWRef6
set_option linter.all false
set_option linter.unusedVariables false
set_option linter.unusedSimpArgs false
namespace Go.Abs
open Go.Proofs Go.Proofs.Ytlknhkocpjjkdaa
set_option maxRecDepth 8000

theorem is_spec (c : Int) : Spec X 47 [] [.int c] (Ret [] (.bo (cond (decide (c ≥ 0)) (decide (c < 3)) false))) := by
  refine spec_go X_ok Try.f47 (by kernel_rfl) (by kernel_rfl) (by kernel_rfl) fun _ _ => ⟨rfl, ?_⟩
  show ARet _ _ _
  exact ret_bo rfl ⟨rfl, rfl⟩

theorem LeC.frzv {ρ : List (Nat × Nat)} {h h' : Heap} {k : EK} {l l' : List k.T} {b o m : Nat} (h1 : (nmOf ρ b).isNone = true) (h2 : hlook h b = some (.data k l)) (h3 : o + m ≤ l.length) (h4 : (l.drop o).take m = l') : LeC ρ h h' (.view b o m) (.d (.sl k l')) := by
  subst h4
  refine .frz _ _ ?_
  show lendC _ _ (7 + 1) _ = _
  simp only [lendC]
  rw [h1, h2]
  have : Nat.ble (o + m) l.length = true := by rw [Nat.ble_eq]; exact h3
  simp only [this, cond_true]

theorem copied (l : List Int) : splice (List.replicate ((l.length : Int)).toNat (0 : Int)) 0 (l.take (List.replicate ((l.length : Int)).toNat (0 : Int)).length) = l := by
  unfold splice
  simp

theorem lown_spec (l : Lists) (h : l.ok) : Spec X 48 [] [l.tv] (Ret [(0, .data .int l.l0), (1, .data .int l.l1), (2, .data .int l.l2)] (.agg [.own 0, .own 1, .own 2])) := by
  refine spec_go X_ok Try.f48 (by kernel_rfl) (by kernel_rfl) (by kernel_rfl) fun _ _ => ⟨rfl, ?_⟩
  show ∃ n, _
  refine ⟨4, .next ?_⟩
  show ABr _ _ _
  refine ⟨fun _ => ?_, fun hb => absurd hb (by decide)⟩
  show AOb _ _
  refine ⟨by decide, ?_⟩
  show AOb ((0 : Int) ≤ (l.l0.length : Int) ∧ (l.l0.length : Int) ≤ (l.l0.length : Int) ∧ (l.l0.length : Int) ≤ (most : Int)) _
  refine ⟨by have := h.1; omega, ?_⟩
  show AOb _ _
  refine ⟨by decide, ?_⟩
  show AOb _ _
  refine ⟨by decide, ?_⟩
  show AOb _ _
  refine ⟨by decide, ?_⟩
  show ALoop _ _ _ _
  refine .next ?_
  show ABr _ _ _
  refine ⟨fun _ => ?_, fun hb => absurd hb (by decide)⟩
  show AOb _ _
  refine ⟨by decide, ?_⟩
  show AOb ((0 : Int) ≤ (l.l1.length : Int) ∧ (l.l1.length : Int) ≤ (l.l1.length : Int) ∧ (l.l1.length : Int) ≤ (most : Int)) _
  refine ⟨by have := h.2.1; omega, ?_⟩
  show AOb _ _
  refine ⟨by decide, ?_⟩
  show AOb _ _
  refine ⟨by decide, ?_⟩
  show AOb _ _
  refine ⟨by decide, ?_⟩
  show ALoop _ _ _ _
  refine .next ?_
  show ABr _ _ _
  refine ⟨fun _ => ?_, fun hb => absurd hb (by decide)⟩
  show AOb _ _
  refine ⟨by decide, ?_⟩
  show AOb ((0 : Int) ≤ (l.l2.length : Int) ∧ (l.l2.length : Int) ≤ (l.l2.length : Int) ∧ (l.l2.length : Int) ≤ (most : Int)) _
  refine ⟨by have := h.2.2; omega, ?_⟩
  show AOb _ _
  refine ⟨by decide, ?_⟩
  show AOb _ _
  refine ⟨by decide, ?_⟩
  show AOb _ _
  refine ⟨by decide, ?_⟩
  show ALoop _ _ _ _
  refine .next ?_
  show ABr _ _ _
  refine ⟨fun hb => absurd hb (by decide), fun _ => ?_⟩
  show ARet _ _ _
  exact ⟨[(416, 0), (1056, 1), (1696, 2)], [(0, .data .int l.l0), (1, .data .int l.l1), (2, .data .int l.l2)], [.agg [.own 0, .own 1, .own 2]], .cons _ _ _ _ (.agg _ _ (.cons _ _ _ _ (.own _ _ rfl) (.cons _ _ _ _ (.own _ _ rfl) (.cons _ _ _ _ (.own _ _ rfl) .nil)))) .nil,
    .old 0 416 _ _ _ rfl rfl (.data_eq (copied l.l0)) (.old 1 1056 _ _ _ rfl rfl (.data_eq (copied l.l1)) (.old 2 1696 _ _ _ rfl rfl (.data_eq (copied l.l2)) .nil)), rfl, rfl, rfl⟩

abbrev own3 (l : Lists) : Heap := [(0, .data .int l.l0), (1, .data .int l.l1), (2, .data .int l.l2)]
abbrev own3T : TV := .agg [.own 0, .own 1, .own 2]

/-- A class's list. -/
def Lists.at_ (l : Lists) (c : Int) : List Int := if c = 0 then l.l0 else if c = 1 then l.l1 else l.l2
def Lists.set_ (l : Lists) (c : Int) (x : List Int) : Lists := if c = 0 then { l with l0 := x } else if c = 1 then { l with l1 := x } else { l with l2 := x }
def Lists.zero : Lists := ⟨[], [], []⟩

theorem Push_bad (l : Lists) (c : Int) (a : List Int) (h : ¬ (0 ≤ c ∧ c ≤ 2)) : Spec X 31 [] [l.tv, .int c, .c (.d (.sl .int a))] (Ret [] (.tup [Lists.zero.tv, .int 1])) := by
  refine spec_go X_ok Try.f31 (by kernel_rfl) (by kernel_rfl) (by kernel_rfl) fun _ _ => ⟨rfl, ?_⟩
  show ACall _ _ _ _ _ _
  refine call_ret (is_spec c) rfl ?_
  show ABr (!(cond (decide (c ≥ 0)) (decide (c < 3)) false)) _ _
  refine ⟨fun _ => ?_, fun hb => absurd hb (by simp; omega)⟩
  show ARet _ _ _
  refine ⟨[], [], [Lists.zero.tv, .int 1], .cons _ _ _ _ (.agg _ _ ?_) (.cons _ _ _ _ .same .nil), .nil, rfl, ⟨rfl, rfl⟩⟩
  repeat (first | exact .nil | refine .cons _ _ _ _ (.d _) ?_ | refine .cons _ _ _ _ (.nilsl _) ?_)

theorem Push_spec (l : Lists) (c : Int) (a : List Int) (h : 0 ≤ c ∧ c ≤ 2) (hok : l.ok) (hm : (l.at_ c).length + a.length ≤ most) : Spec X 31 [] [l.tv, .int c, .c (.d (.sl .int a))] (Ret [] (.tup [(l.set_ c (l.at_ c ++ a)).tv, .int 0])) := by
  refine spec_go X_ok Try.f31 (by kernel_rfl) (by kernel_rfl) (by kernel_rfl) fun _ _ => ⟨rfl, ?_⟩
  have hc : c = 0 ∨ c = 1 ∨ c = 2 := by omega
  rcases hc with rfl | rfl | rfl
  · show ACall _ _ _ _ _ _
    refine call_ret (is_spec 0) rfl ?_
    show ABr _ _ _
    refine ⟨fun hb => absurd hb (by decide), fun _ => ?_⟩
    show ACall _ _ _ _ _ _
    refine .mk _ (lown_spec l hok) ?_
    rintro H r ⟨rfl, rfl⟩ _ _
    refine ⟨.inl rfl, ?_⟩
    show AOb ((0 : Int) ≤ 0 ∧ (0 : Int) < 3) _
    refine ⟨by decide, ?_⟩
    show AOb (l.l0.length + a.length ≤ most) _
    refine ⟨hm, ?_⟩
    show AOb ((0 : Int) ≤ 0 ∧ (0 : Int) < 3) _
    refine ⟨by decide, ?_⟩
    show ARet _ _ _
    exact ⟨[], [], [(l.set_ 0 (l.at_ 0 ++ a)).tv, .int 0], .cons _ _ _ _ (.agg _ _ (.cons _ _ _ _ (.frz _ _ rfl) (.cons _ _ _ _ (.frz _ _ rfl) (.cons _ _ _ _ (.frz _ _ rfl) .nil)))) (.cons _ _ _ _ .same .nil), .nil, rfl, rfl, rfl⟩
  · show ACall _ _ _ _ _ _
    refine call_ret (is_spec 1) rfl ?_
    show ABr _ _ _
    refine ⟨fun hb => absurd hb (by decide), fun _ => ?_⟩
    show ACall _ _ _ _ _ _
    refine .mk _ (lown_spec l hok) ?_
    rintro H r ⟨rfl, rfl⟩ _ _
    refine ⟨.inl rfl, ?_⟩
    show AOb ((0 : Int) ≤ 1 ∧ (1 : Int) < 3) _
    refine ⟨by decide, ?_⟩
    show AOb (l.l1.length + a.length ≤ most) _
    refine ⟨hm, ?_⟩
    show AOb ((0 : Int) ≤ 1 ∧ (1 : Int) < 3) _
    refine ⟨by decide, ?_⟩
    show ARet _ _ _
    exact ⟨[], [], [(l.set_ 1 (l.at_ 1 ++ a)).tv, .int 0], .cons _ _ _ _ (.agg _ _ (.cons _ _ _ _ (.frz _ _ rfl) (.cons _ _ _ _ (.frz _ _ rfl) (.cons _ _ _ _ (.frz _ _ rfl) .nil)))) (.cons _ _ _ _ .same .nil), .nil, rfl, rfl, rfl⟩
  · show ACall _ _ _ _ _ _
    refine call_ret (is_spec 2) rfl ?_
    show ABr _ _ _
    refine ⟨fun hb => absurd hb (by decide), fun _ => ?_⟩
    show ACall _ _ _ _ _ _
    refine .mk _ (lown_spec l hok) ?_
    rintro H r ⟨rfl, rfl⟩ _ _
    refine ⟨.inl rfl, ?_⟩
    show AOb ((0 : Int) ≤ 2 ∧ (2 : Int) < 3) _
    refine ⟨by decide, ?_⟩
    show AOb (l.l2.length + a.length ≤ most) _
    refine ⟨hm, ?_⟩
    show AOb ((0 : Int) ≤ 2 ∧ (2 : Int) < 3) _
    refine ⟨by decide, ?_⟩
    show ARet _ _ _
    exact ⟨[], [], [(l.set_ 2 (l.at_ 2 ++ a)).tv, .int 0], .cons _ _ _ _ (.agg _ _ (.cons _ _ _ _ (.frz _ _ rfl) (.cons _ _ _ _ (.frz _ _ rfl) (.cons _ _ _ _ (.frz _ _ rfl) .nil)))) (.cons _ _ _ _ .same .nil), .nil, rfl, rfl, rfl⟩

theorem Pop_bad (l : Lists) (c : Int) (h : ¬ (0 ≤ c ∧ c ≤ 2)) : Spec X 32 [] [l.tv, .int c] (Ret [] (.tup [Lists.zero.tv, .int 0, .int 1])) := by
  refine spec_go X_ok Try.f32 (by kernel_rfl) (by kernel_rfl) (by kernel_rfl) fun _ _ => ⟨rfl, ?_⟩
  show ACall _ _ _ _ _ _
  refine call_ret (is_spec c) rfl ?_
  show ABr (!(cond (decide (c ≥ 0)) (decide (c < 3)) false)) _ _
  refine ⟨fun _ => ?_, fun hb => absurd hb (by simp; omega)⟩
  show ARet _ _ _
  refine ⟨[], [], [Lists.zero.tv, .int 0, .int 1], .cons _ _ _ _ (.agg _ _ ?_) (.cons _ _ _ _ .same (.cons _ _ _ _ .same .nil)), .nil, rfl, ⟨rfl, rfl⟩⟩
  repeat (first | exact .nil | refine .cons _ _ _ _ (.d _) ?_ | refine .cons _ _ _ _ (.nilsl _) ?_)

theorem Pop_none (l : Lists) (c : Int) (h : 0 ≤ c ∧ c ≤ 2) (h0 : l.at_ c = []) : Spec X 32 [] [l.tv, .int c] (Ret [] (.tup [Lists.zero.tv, .int 0, .int 3])) := by
  refine spec_go X_ok Try.f32 (by kernel_rfl) (by kernel_rfl) (by kernel_rfl) fun _ _ => ⟨rfl, ?_⟩
  have hc : c = 0 ∨ c = 1 ∨ c = 2 := by omega
  rcases hc with rfl | rfl | rfl
  · show ACall _ _ _ _ _ _
    refine call_ret (is_spec 0) rfl ?_
    show ABr _ _ _
    refine ⟨fun hb => absurd hb (by decide), fun _ => ?_⟩
    show AOb ((0 : Int) ≤ 0 ∧ (0 : Int) < 3) _
    refine ⟨by decide, ?_⟩
    show ABr (decide ((l.l0.length : Int) = 0)) _ _
    have e : l.l0 = [] := h0
    refine ⟨fun _ => ?_, fun hb => absurd hb (by rw [e]; decide)⟩
    show ARet _ _ _
    refine ⟨[], [], [Lists.zero.tv, .int 0, .int 3], .cons _ _ _ _ (.agg _ _ ?_) (.cons _ _ _ _ .same (.cons _ _ _ _ .same .nil)), .nil, rfl, ⟨rfl, rfl⟩⟩
    repeat (first | exact .nil | refine .cons _ _ _ _ (.d _) ?_ | refine .cons _ _ _ _ (.nilsl _) ?_)
  · show ACall _ _ _ _ _ _
    refine call_ret (is_spec 1) rfl ?_
    show ABr _ _ _
    refine ⟨fun hb => absurd hb (by decide), fun _ => ?_⟩
    show AOb ((0 : Int) ≤ 1 ∧ (1 : Int) < 3) _
    refine ⟨by decide, ?_⟩
    show ABr (decide ((l.l1.length : Int) = 0)) _ _
    have e : l.l1 = [] := h0
    refine ⟨fun _ => ?_, fun hb => absurd hb (by rw [e]; decide)⟩
    show ARet _ _ _
    refine ⟨[], [], [Lists.zero.tv, .int 0, .int 3], .cons _ _ _ _ (.agg _ _ ?_) (.cons _ _ _ _ .same (.cons _ _ _ _ .same .nil)), .nil, rfl, ⟨rfl, rfl⟩⟩
    repeat (first | exact .nil | refine .cons _ _ _ _ (.d _) ?_ | refine .cons _ _ _ _ (.nilsl _) ?_)
  · show ACall _ _ _ _ _ _
    refine call_ret (is_spec 2) rfl ?_
    show ABr _ _ _
    refine ⟨fun hb => absurd hb (by decide), fun _ => ?_⟩
    show AOb ((0 : Int) ≤ 2 ∧ (2 : Int) < 3) _
    refine ⟨by decide, ?_⟩
    show ABr (decide ((l.l2.length : Int) = 0)) _ _
    have e : l.l2 = [] := h0
    refine ⟨fun _ => ?_, fun hb => absurd hb (by rw [e]; decide)⟩
    show ARet _ _ _
    refine ⟨[], [], [Lists.zero.tv, .int 0, .int 3], .cons _ _ _ _ (.agg _ _ ?_) (.cons _ _ _ _ .same (.cons _ _ _ _ .same .nil)), .nil, rfl, ⟨rfl, rfl⟩⟩
    repeat (first | exact .nil | refine .cons _ _ _ _ (.d _) ?_ | refine .cons _ _ _ _ (.nilsl _) ?_)

theorem Pop_spec (l : Lists) (c : Int) (h : 0 ≤ c ∧ c ≤ 2) (hok : l.ok) (h0 : 0 < (l.at_ c).length) : Spec X 32 [] [l.tv, .int c] (Ret [] (.tup [(l.set_ c ((l.at_ c).take ((l.at_ c).length - 1))).tv, .int (at0 (l.at_ c) ((l.at_ c).length - 1)), .int 0])) := by
  refine spec_go X_ok Try.f32 (by kernel_rfl) (by kernel_rfl) (by kernel_rfl) fun _ _ => ⟨rfl, ?_⟩
  have hc : c = 0 ∨ c = 1 ∨ c = 2 := by omega
  rcases hc with rfl | rfl | rfl
  · have hm : l.l0.length ≤ 68719476736 := hok.1
    have h0 : 0 < l.l0.length := h0
    have hw : IntKind.i64.wrap ((l.l0.length : Int) - 1) = ((l.l0.length - 1 : Nat) : Int) := wrapM (by unfold maxN; omega) h0
    have e1 : (IntKind.i64.wrap ((l.l0.length : Int) - 1)).toNat = l.l0.length - 1 := by rw [hw]; omega
    show ACall _ _ _ _ _ _
    refine call_ret (is_spec 0) rfl ?_
    show ABr _ _ _
    refine ⟨fun hb => absurd hb (by decide), fun _ => ?_⟩
    show AOb ((0 : Int) ≤ 0 ∧ (0 : Int) < 3) _
    refine ⟨by decide, ?_⟩
    show ABr (decide ((l.l0.length : Int) = 0)) _ _
    refine ⟨fun hb => absurd hb (by rw [decide_eq_true_iff]; omega), fun _ => ?_⟩
    show ACall _ _ _ _ _ _
    refine .mk _ (lown_spec l hok) ?_
    rintro H r ⟨rfl, rfl⟩ _ _
    refine ⟨.inl rfl, ?_⟩
    show AOb ((0 : Int) ≤ 0 ∧ (0 : Int) < 3) _
    refine ⟨by decide, ?_⟩
    show AOb ((0 : Int) ≤ 0 ∧ (0 : Int) < 3) _
    refine ⟨by decide, ?_⟩
    show AOb ((0 : Int) ≤ IntKind.i64.wrap ((l.l0.length : Int) - 1) ∧ IntKind.i64.wrap ((l.l0.length : Int) - 1) < (l.l0.length : Int)) _
    refine ⟨by rw [hw]; omega, ?_⟩
    show AOb ((IntKind.i64.wrap ((l.l0.length : Int) - 1)).toNat < l.l0.length) _
    refine ⟨by rw [hw]; omega, ?_⟩
    show AOb ((0 : Int) ≤ 0 ∧ (0 : Int) < 3) _
    refine ⟨by decide, ?_⟩
    show AOb ((0 : Int) ≤ IntKind.i64.wrap ((l.l0.length : Int) - 1) ∧ IntKind.i64.wrap ((l.l0.length : Int) - 1) ≤ (l.l0.length : Int)) _
    refine ⟨by rw [hw]; omega, ?_⟩
    show AOb ((0 : Int) ≤ 0 ∧ (0 : Int) < 3) _
    refine ⟨by decide, ?_⟩
    show ARet _ _ _
    refine ⟨[], [], [(l.set_ 0 ((l.at_ 0).take ((l.at_ 0).length - 1))).tv, .int (at0 (l.at_ 0) ((l.at_ 0).length - 1)), .int 0], .cons _ _ _ _ (.agg _ _ (.cons _ _ _ _ (.frzv (k := .int) (l := l.l0) rfl rfl ?_ ?_) (.cons _ _ _ _ (.frz _ _ rfl) (.cons _ _ _ _ (.frz _ _ rfl) .nil)))) (.cons _ _ _ _ (.int_eq ?_) (.cons _ _ _ _ .same .nil)), .nil, rfl, rfl, rfl⟩
    · show 0 + (IntKind.i64.wrap ((l.l0.length : Int) - 1) - 0).toNat ≤ l.l0.length
      rw [hw]; omega
    · show (l.l0.drop 0).take (IntKind.i64.wrap ((l.l0.length : Int) - 1) - 0).toNat = l.l0.take (l.l0.length - 1)
      rw [Int.sub_zero, e1, List.drop_zero]
    · show at0 l.l0 (IntKind.i64.wrap ((l.l0.length : Int) - 1)).toNat = at0 l.l0 (l.l0.length - 1)
      rw [e1]
  · have hm : l.l1.length ≤ 68719476736 := hok.2.1
    have h0 : 0 < l.l1.length := h0
    have hw : IntKind.i64.wrap ((l.l1.length : Int) - 1) = ((l.l1.length - 1 : Nat) : Int) := wrapM (by unfold maxN; omega) h0
    have e1 : (IntKind.i64.wrap ((l.l1.length : Int) - 1)).toNat = l.l1.length - 1 := by rw [hw]; omega
    show ACall _ _ _ _ _ _
    refine call_ret (is_spec 1) rfl ?_
    show ABr _ _ _
    refine ⟨fun hb => absurd hb (by decide), fun _ => ?_⟩
    show AOb ((0 : Int) ≤ 1 ∧ (1 : Int) < 3) _
    refine ⟨by decide, ?_⟩
    show ABr (decide ((l.l1.length : Int) = 0)) _ _
    refine ⟨fun hb => absurd hb (by rw [decide_eq_true_iff]; omega), fun _ => ?_⟩
    show ACall _ _ _ _ _ _
    refine .mk _ (lown_spec l hok) ?_
    rintro H r ⟨rfl, rfl⟩ _ _
    refine ⟨.inl rfl, ?_⟩
    show AOb ((0 : Int) ≤ 1 ∧ (1 : Int) < 3) _
    refine ⟨by decide, ?_⟩
    show AOb ((0 : Int) ≤ 1 ∧ (1 : Int) < 3) _
    refine ⟨by decide, ?_⟩
    show AOb ((0 : Int) ≤ IntKind.i64.wrap ((l.l1.length : Int) - 1) ∧ IntKind.i64.wrap ((l.l1.length : Int) - 1) < (l.l1.length : Int)) _
    refine ⟨by rw [hw]; omega, ?_⟩
    show AOb ((IntKind.i64.wrap ((l.l1.length : Int) - 1)).toNat < l.l1.length) _
    refine ⟨by rw [hw]; omega, ?_⟩
    show AOb ((0 : Int) ≤ 1 ∧ (1 : Int) < 3) _
    refine ⟨by decide, ?_⟩
    show AOb ((0 : Int) ≤ IntKind.i64.wrap ((l.l1.length : Int) - 1) ∧ IntKind.i64.wrap ((l.l1.length : Int) - 1) ≤ (l.l1.length : Int)) _
    refine ⟨by rw [hw]; omega, ?_⟩
    show AOb ((0 : Int) ≤ 1 ∧ (1 : Int) < 3) _
    refine ⟨by decide, ?_⟩
    show ARet _ _ _
    refine ⟨[], [], [(l.set_ 1 ((l.at_ 1).take ((l.at_ 1).length - 1))).tv, .int (at0 (l.at_ 1) ((l.at_ 1).length - 1)), .int 0], .cons _ _ _ _ (.agg _ _ (.cons _ _ _ _ (.frz _ _ rfl) (.cons _ _ _ _ (.frzv (k := .int) (l := l.l1) rfl rfl ?_ ?_) (.cons _ _ _ _ (.frz _ _ rfl) .nil)))) (.cons _ _ _ _ (.int_eq ?_) (.cons _ _ _ _ .same .nil)), .nil, rfl, rfl, rfl⟩
    · show 0 + (IntKind.i64.wrap ((l.l1.length : Int) - 1) - 0).toNat ≤ l.l1.length
      rw [hw]; omega
    · show (l.l1.drop 0).take (IntKind.i64.wrap ((l.l1.length : Int) - 1) - 0).toNat = l.l1.take (l.l1.length - 1)
      rw [Int.sub_zero, e1, List.drop_zero]
    · show at0 l.l1 (IntKind.i64.wrap ((l.l1.length : Int) - 1)).toNat = at0 l.l1 (l.l1.length - 1)
      rw [e1]
  · have hm : l.l2.length ≤ 68719476736 := hok.2.2
    have h0 : 0 < l.l2.length := h0
    have hw : IntKind.i64.wrap ((l.l2.length : Int) - 1) = ((l.l2.length - 1 : Nat) : Int) := wrapM (by unfold maxN; omega) h0
    have e1 : (IntKind.i64.wrap ((l.l2.length : Int) - 1)).toNat = l.l2.length - 1 := by rw [hw]; omega
    show ACall _ _ _ _ _ _
    refine call_ret (is_spec 2) rfl ?_
    show ABr _ _ _
    refine ⟨fun hb => absurd hb (by decide), fun _ => ?_⟩
    show AOb ((0 : Int) ≤ 2 ∧ (2 : Int) < 3) _
    refine ⟨by decide, ?_⟩
    show ABr (decide ((l.l2.length : Int) = 0)) _ _
    refine ⟨fun hb => absurd hb (by rw [decide_eq_true_iff]; omega), fun _ => ?_⟩
    show ACall _ _ _ _ _ _
    refine .mk _ (lown_spec l hok) ?_
    rintro H r ⟨rfl, rfl⟩ _ _
    refine ⟨.inl rfl, ?_⟩
    show AOb ((0 : Int) ≤ 2 ∧ (2 : Int) < 3) _
    refine ⟨by decide, ?_⟩
    show AOb ((0 : Int) ≤ 2 ∧ (2 : Int) < 3) _
    refine ⟨by decide, ?_⟩
    show AOb ((0 : Int) ≤ IntKind.i64.wrap ((l.l2.length : Int) - 1) ∧ IntKind.i64.wrap ((l.l2.length : Int) - 1) < (l.l2.length : Int)) _
    refine ⟨by rw [hw]; omega, ?_⟩
    show AOb ((IntKind.i64.wrap ((l.l2.length : Int) - 1)).toNat < l.l2.length) _
    refine ⟨by rw [hw]; omega, ?_⟩
    show AOb ((0 : Int) ≤ 2 ∧ (2 : Int) < 3) _
    refine ⟨by decide, ?_⟩
    show AOb ((0 : Int) ≤ IntKind.i64.wrap ((l.l2.length : Int) - 1) ∧ IntKind.i64.wrap ((l.l2.length : Int) - 1) ≤ (l.l2.length : Int)) _
    refine ⟨by rw [hw]; omega, ?_⟩
    show AOb ((0 : Int) ≤ 2 ∧ (2 : Int) < 3) _
    refine ⟨by decide, ?_⟩
    show ARet _ _ _
    refine ⟨[], [], [(l.set_ 2 ((l.at_ 2).take ((l.at_ 2).length - 1))).tv, .int (at0 (l.at_ 2) ((l.at_ 2).length - 1)), .int 0], .cons _ _ _ _ (.agg _ _ (.cons _ _ _ _ (.frz _ _ rfl) (.cons _ _ _ _ (.frz _ _ rfl) (.cons _ _ _ _ (.frzv (k := .int) (l := l.l2) rfl rfl ?_ ?_) .nil)))) (.cons _ _ _ _ (.int_eq ?_) (.cons _ _ _ _ .same .nil)), .nil, rfl, rfl, rfl⟩
    · show 0 + (IntKind.i64.wrap ((l.l2.length : Int) - 1) - 0).toNat ≤ l.l2.length
      rw [hw]; omega
    · show (l.l2.drop 0).take (IntKind.i64.wrap ((l.l2.length : Int) - 1) - 0).toNat = l.l2.take (l.l2.length - 1)
      rw [Int.sub_zero, e1, List.drop_zero]
    · show at0 l.l2 (IntKind.i64.wrap ((l.l2.length : Int) - 1)).toNat = at0 l.l2 (l.l2.length - 1)
      rw [e1]
end Go.Abs
