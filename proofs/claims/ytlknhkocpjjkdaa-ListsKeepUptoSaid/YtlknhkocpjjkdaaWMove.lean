/- Walks: the program's lists of free cells: Move. -/
import Derived.Test.YtlknhkocpjjkdaaWLists
set_option linter.all false
set_option linter.unusedVariables false
set_option linter.unusedSimpArgs false
namespace Go.Abs
open Go.Proofs Go.Proofs.Ytlknhkocpjjkdaa
set_option maxRecDepth 8000

theorem LeC.frz_eq {ρ : List (Nat × Nat)} {h h' : Heap} {x : CV} {k : EK} {l m : List k.T} (h1 : lendC (fun b => (nmOf ρ b).isNone) h 8 x = some (.sl k l)) (e : l = m) : LeC ρ h h' x (.d (.sl k m)) := by subst e; exact .frz _ _ h1

theorem Move_bad (l m : Lists) (c n : Int) (h : ¬ (0 ≤ c ∧ c ≤ 2 ∧ 0 ≤ n)) : Spec X 29 [] [l.tv, m.tv, .int c, .int n] (Ret [] (.tup [Lists.zero.tv, Lists.zero.tv, .int 1])) := by
  refine spec_go X_ok Try.f29 (by kernel_rfl) (by kernel_rfl) (by kernel_rfl) fun _ _ => ⟨rfl, ?_⟩
  show ACall _ _ _ _ _ _
  refine call_ret (is_spec c) rfl ?_
  show ABr (cond (!(cond (decide (c ≥ 0)) (decide (c < 3)) false)) true (decide (n < 0))) _ _
  refine ⟨fun _ => ?_, fun hb => absurd hb (by simp; omega)⟩
  show ARet _ _ _
  refine ⟨[], [], [Lists.zero.tv, Lists.zero.tv, .int 1], .cons _ _ _ _ (.agg _ _ ?_) (.cons _ _ _ _ (.agg _ _ ?_) (.cons _ _ _ _ .same .nil)), .nil, rfl, ⟨rfl, rfl⟩⟩
  all_goals repeat (first | exact .nil | refine .cons _ _ _ _ (.d _) ?_ | refine .cons _ _ _ _ (.nilsl _) ?_)

def leftOf (len : Nat) (n : Int) : Nat := len - n.toNat

theorem left_eq {len : Nat} {n : Int} (hl : len ≤ 68719476736) (h0 : 0 ≤ n) (h1 : n ≤ 9223372036854775807) : (if (0 : Int) > IntKind.i64.wrap ((len : Int) - n) then (0 : Int) else IntKind.i64.wrap ((len : Int) - n)) = ((leftOf len n : Nat) : Int) := by
  rw [wrap64 (by omega) (by omega)]
  unfold leftOf
  split <;> omega

theorem moved (a : List Int) (k : Nat) (h : k ≤ a.length) : (((revd a k (a.length - k)).drop k).take (a.length - k)) = (a.drop k).reverse ∧ (revd a k (a.length - k)).take k = a.take k := by
  unfold revd
  have e1 : (a.take k).length = k := by simp; omega
  have e2 : (a.drop k).take (a.length - k) = a.drop k := by rw [List.take_of_length_le]; simp
  rw [e2]
  constructor
  · rw [List.append_assoc, List.drop_left' e1, List.take_left' (by simp)]
  · rw [List.append_assoc, List.take_left' e1]

theorem Move_spec (l m : Lists) (c n : Int) (h : 0 ≤ c ∧ c ≤ 2) (h0 : 0 ≤ n) (h1 : n ≤ 9223372036854775807) (hok : l.ok) (hok' : m.ok) (hsum : (l.at_ c).length + (m.at_ c).length ≤ most) : Spec X 29 [] [l.tv, m.tv, .int c, .int n]
    (Ret [] (.tup [(l.set_ c ((l.at_ c).take (leftOf (l.at_ c).length n))).tv, (m.set_ c (m.at_ c ++ ((l.at_ c).drop (leftOf (l.at_ c).length n)).reverse)).tv, .int 0])) := by
  refine spec_go X_ok Try.f29 (by kernel_rfl) (by kernel_rfl) (by kernel_rfl) fun _ _ => ⟨rfl, ?_⟩
  have hc : c = 0 ∨ c = 1 ∨ c = 2 := by omega
  rcases hc with rfl | rfl | rfl
  · have hm : l.l0.length ≤ 68719476736 := hok.1
    have hE : (if (0 : Int) > IntKind.i64.wrap ((l.l0.length : Int) - n) then (0 : Int) else IntKind.i64.wrap ((l.l0.length : Int) - n)) = ((leftOf l.l0.length n : Nat) : Int) := left_eq hm h0 h1
    have hlf : leftOf l.l0.length n ≤ l.l0.length := by unfold leftOf; omega
    show ACall _ _ _ _ _ _
    refine call_ret (is_spec 0) rfl ?_
    show ABr (cond false true (decide (n < 0))) _ _
    refine ⟨fun hb => absurd hb (by simp; omega), fun _ => ?_⟩
    show ADCall _ _ _ _ _ _
    refine .mk _ _ (lown_spec l hok) rfl ?_
    show ADCall _ _ _ _ _ _
    refine .mk _ _ (lown_spec m hok') rfl ?_
    show AOb ((0 : Int) ≤ 0 ∧ (0 : Int) < 3) _
    refine ⟨by decide, ?_⟩
    show AOb ((0 : Int) ≤ 0 ∧ (0 : Int) < 3) _
    refine ⟨by decide, ?_⟩
    show AOb ((0 : Int) ≤ (if (0 : Int) > IntKind.i64.wrap ((l.l0.length : Int) - n) then (0 : Int) else IntKind.i64.wrap ((l.l0.length : Int) - n)) ∧ (if (0 : Int) > IntKind.i64.wrap ((l.l0.length : Int) - n) then (0 : Int) else IntKind.i64.wrap ((l.l0.length : Int) - n)) ≤ (l.l0.length : Int)) _
    refine ⟨by rw [hE]; omega, ?_⟩
    show ACall _ _ _ _ _ _
    refine .hand [(448, 16)] (hp16 l.l0) [.c (.view 16 ((if (0 : Int) > IntKind.i64.wrap ((l.l0.length : Int) - n) then (0 : Int) else IntKind.i64.wrap ((l.l0.length : Int) - n))).toNat ((l.l0.length : Int) - (if (0 : Int) > IntKind.i64.wrap ((l.l0.length : Int) - n) then (0 : Int) else IntKind.i64.wrap ((l.l0.length : Int) - n))).toNat)] _ (.cons _ _ _ _ (.c _ _ (.view _ _ _ _ rfl)) .nil) (.old 16 448 _ _ _ rfl rfl (.data_eq rfl) .nil) rfl (Reverse_spec l.l0 _ _ (by rw [hE]; omega)) ?_
    rintro H r ⟨rfl, rfl⟩ _ _
    refine ⟨rfl, .inr ⟨rfl, rfl⟩, ?_⟩
    have e1 : ((if (0 : Int) > IntKind.i64.wrap ((l.l0.length : Int) - n) then (0 : Int) else IntKind.i64.wrap ((l.l0.length : Int) - n))).toNat = leftOf l.l0.length n := by rw [hE]; omega
    have e2 : ((l.l0.length : Int) - (if (0 : Int) > IntKind.i64.wrap ((l.l0.length : Int) - n) then (0 : Int) else IntKind.i64.wrap ((l.l0.length : Int) - n))).toNat = l.l0.length - leftOf l.l0.length n := by rw [hE]; omega
    obtain ⟨mv1, mv2⟩ := moved l.l0 _ hlf
    have hrl := revd_len l.l0 (leftOf l.l0.length n) (l.l0.length - leftOf l.l0.length n) (by omega)
    show AOb ((0 : Int) ≤ 0 ∧ (0 : Int) < 3) _
    refine ⟨by decide, ?_⟩
    show AOb (m.l0.length + (((revd l.l0 ((if (0 : Int) > IntKind.i64.wrap ((l.l0.length : Int) - n) then (0 : Int) else IntKind.i64.wrap ((l.l0.length : Int) - n))).toNat ((l.l0.length : Int) - (if (0 : Int) > IntKind.i64.wrap ((l.l0.length : Int) - n) then (0 : Int) else IntKind.i64.wrap ((l.l0.length : Int) - n))).toNat).drop ((if (0 : Int) > IntKind.i64.wrap ((l.l0.length : Int) - n) then (0 : Int) else IntKind.i64.wrap ((l.l0.length : Int) - n))).toNat).take ((l.l0.length : Int) - (if (0 : Int) > IntKind.i64.wrap ((l.l0.length : Int) - n) then (0 : Int) else IntKind.i64.wrap ((l.l0.length : Int) - n))).toNat).length ≤ most) _
    refine ⟨by rw [e1, e2, mv1]; simp; have hs : l.l0.length + m.l0.length ≤ most := hsum; omega, ?_⟩
    show AOb ((0 : Int) ≤ 0 ∧ (0 : Int) < 3) _
    refine ⟨by decide, ?_⟩
    show AOb ((0 : Int) ≤ 0 ∧ (0 : Int) < 3) _
    refine ⟨by decide, ?_⟩
    show AOb ((0 : Int) ≤ (if (0 : Int) > IntKind.i64.wrap ((l.l0.length : Int) - n) then (0 : Int) else IntKind.i64.wrap ((l.l0.length : Int) - n)) ∧ (if (0 : Int) > IntKind.i64.wrap ((l.l0.length : Int) - n) then (0 : Int) else IntKind.i64.wrap ((l.l0.length : Int) - n)) ≤ ((revd l.l0 ((if (0 : Int) > IntKind.i64.wrap ((l.l0.length : Int) - n) then (0 : Int) else IntKind.i64.wrap ((l.l0.length : Int) - n))).toNat ((l.l0.length : Int) - (if (0 : Int) > IntKind.i64.wrap ((l.l0.length : Int) - n) then (0 : Int) else IntKind.i64.wrap ((l.l0.length : Int) - n))).toNat).length : Int)) _
    refine ⟨by rw [e1, e2, hrl, hE]; omega, ?_⟩
    show AOb ((0 : Int) ≤ 0 ∧ (0 : Int) < 3) _
    refine ⟨by decide, ?_⟩
    show ARet _ _ _
    refine ⟨[], [], [(l.set_ 0 ((l.at_ 0).take (leftOf (l.at_ 0).length n))).tv, (m.set_ 0 (m.at_ 0 ++ ((l.at_ 0).drop (leftOf (l.at_ 0).length n)).reverse)).tv, .int 0], .cons _ _ _ _ (.agg _ _ (.cons _ _ _ _ (.frzv (k := .int) (l := revd l.l0 ((if (0 : Int) > IntKind.i64.wrap ((l.l0.length : Int) - n) then (0 : Int) else IntKind.i64.wrap ((l.l0.length : Int) - n))).toNat ((l.l0.length : Int) - (if (0 : Int) > IntKind.i64.wrap ((l.l0.length : Int) - n) then (0 : Int) else IntKind.i64.wrap ((l.l0.length : Int) - n))).toNat) rfl rfl ?_ ?_) (.cons _ _ _ _ (.frz _ _ rfl) (.cons _ _ _ _ (.frz _ _ rfl) .nil)))) (.cons _ _ _ _ (.agg _ _ (.cons _ _ _ _ (.frz_eq rfl ?_) (.cons _ _ _ _ (.frz _ _ rfl) (.cons _ _ _ _ (.frz _ _ rfl) .nil)))) (.cons _ _ _ _ .same .nil)), .nil, rfl, rfl, rfl⟩
    · show 0 + ((if (0 : Int) > IntKind.i64.wrap ((l.l0.length : Int) - n) then (0 : Int) else IntKind.i64.wrap ((l.l0.length : Int) - n)) - 0).toNat ≤ (revd l.l0 ((if (0 : Int) > IntKind.i64.wrap ((l.l0.length : Int) - n) then (0 : Int) else IntKind.i64.wrap ((l.l0.length : Int) - n))).toNat ((l.l0.length : Int) - (if (0 : Int) > IntKind.i64.wrap ((l.l0.length : Int) - n) then (0 : Int) else IntKind.i64.wrap ((l.l0.length : Int) - n))).toNat).length
      rw [e1, e2, hrl, hE]; omega
    · show ((revd l.l0 ((if (0 : Int) > IntKind.i64.wrap ((l.l0.length : Int) - n) then (0 : Int) else IntKind.i64.wrap ((l.l0.length : Int) - n))).toNat ((l.l0.length : Int) - (if (0 : Int) > IntKind.i64.wrap ((l.l0.length : Int) - n) then (0 : Int) else IntKind.i64.wrap ((l.l0.length : Int) - n))).toNat).drop 0).take ((if (0 : Int) > IntKind.i64.wrap ((l.l0.length : Int) - n) then (0 : Int) else IntKind.i64.wrap ((l.l0.length : Int) - n)) - 0).toNat = l.l0.take (leftOf l.l0.length n)
      rw [Int.sub_zero, e1, e2, List.drop_zero, mv2]
    · show m.l0 ++ ((revd l.l0 ((if (0 : Int) > IntKind.i64.wrap ((l.l0.length : Int) - n) then (0 : Int) else IntKind.i64.wrap ((l.l0.length : Int) - n))).toNat ((l.l0.length : Int) - (if (0 : Int) > IntKind.i64.wrap ((l.l0.length : Int) - n) then (0 : Int) else IntKind.i64.wrap ((l.l0.length : Int) - n))).toNat).drop ((if (0 : Int) > IntKind.i64.wrap ((l.l0.length : Int) - n) then (0 : Int) else IntKind.i64.wrap ((l.l0.length : Int) - n))).toNat).take ((l.l0.length : Int) - (if (0 : Int) > IntKind.i64.wrap ((l.l0.length : Int) - n) then (0 : Int) else IntKind.i64.wrap ((l.l0.length : Int) - n))).toNat = _
      rw [e1, e2, mv1]
      rfl
  · have hm : l.l1.length ≤ 68719476736 := hok.2.1
    have hE : (if (0 : Int) > IntKind.i64.wrap ((l.l1.length : Int) - n) then (0 : Int) else IntKind.i64.wrap ((l.l1.length : Int) - n)) = ((leftOf l.l1.length n : Nat) : Int) := left_eq hm h0 h1
    have hlf : leftOf l.l1.length n ≤ l.l1.length := by unfold leftOf; omega
    show ACall _ _ _ _ _ _
    refine call_ret (is_spec 1) rfl ?_
    show ABr (cond false true (decide (n < 0))) _ _
    refine ⟨fun hb => absurd hb (by simp; omega), fun _ => ?_⟩
    show ADCall _ _ _ _ _ _
    refine .mk _ _ (lown_spec l hok) rfl ?_
    show ADCall _ _ _ _ _ _
    refine .mk _ _ (lown_spec m hok') rfl ?_
    show AOb ((0 : Int) ≤ 1 ∧ (1 : Int) < 3) _
    refine ⟨by decide, ?_⟩
    show AOb ((0 : Int) ≤ 1 ∧ (1 : Int) < 3) _
    refine ⟨by decide, ?_⟩
    show AOb ((0 : Int) ≤ (if (0 : Int) > IntKind.i64.wrap ((l.l1.length : Int) - n) then (0 : Int) else IntKind.i64.wrap ((l.l1.length : Int) - n)) ∧ (if (0 : Int) > IntKind.i64.wrap ((l.l1.length : Int) - n) then (0 : Int) else IntKind.i64.wrap ((l.l1.length : Int) - n)) ≤ (l.l1.length : Int)) _
    refine ⟨by rw [hE]; omega, ?_⟩
    show ACall _ _ _ _ _ _
    refine .hand [(449, 16)] (hp16 l.l1) [.c (.view 16 ((if (0 : Int) > IntKind.i64.wrap ((l.l1.length : Int) - n) then (0 : Int) else IntKind.i64.wrap ((l.l1.length : Int) - n))).toNat ((l.l1.length : Int) - (if (0 : Int) > IntKind.i64.wrap ((l.l1.length : Int) - n) then (0 : Int) else IntKind.i64.wrap ((l.l1.length : Int) - n))).toNat)] _ (.cons _ _ _ _ (.c _ _ (.view _ _ _ _ rfl)) .nil) (.old 16 449 _ _ _ rfl rfl (.data_eq rfl) .nil) rfl (Reverse_spec l.l1 _ _ (by rw [hE]; omega)) ?_
    rintro H r ⟨rfl, rfl⟩ _ _
    refine ⟨rfl, .inr ⟨rfl, rfl⟩, ?_⟩
    have e1 : ((if (0 : Int) > IntKind.i64.wrap ((l.l1.length : Int) - n) then (0 : Int) else IntKind.i64.wrap ((l.l1.length : Int) - n))).toNat = leftOf l.l1.length n := by rw [hE]; omega
    have e2 : ((l.l1.length : Int) - (if (0 : Int) > IntKind.i64.wrap ((l.l1.length : Int) - n) then (0 : Int) else IntKind.i64.wrap ((l.l1.length : Int) - n))).toNat = l.l1.length - leftOf l.l1.length n := by rw [hE]; omega
    obtain ⟨mv1, mv2⟩ := moved l.l1 _ hlf
    have hrl := revd_len l.l1 (leftOf l.l1.length n) (l.l1.length - leftOf l.l1.length n) (by omega)
    show AOb ((0 : Int) ≤ 1 ∧ (1 : Int) < 3) _
    refine ⟨by decide, ?_⟩
    show AOb (m.l1.length + (((revd l.l1 ((if (0 : Int) > IntKind.i64.wrap ((l.l1.length : Int) - n) then (0 : Int) else IntKind.i64.wrap ((l.l1.length : Int) - n))).toNat ((l.l1.length : Int) - (if (0 : Int) > IntKind.i64.wrap ((l.l1.length : Int) - n) then (0 : Int) else IntKind.i64.wrap ((l.l1.length : Int) - n))).toNat).drop ((if (0 : Int) > IntKind.i64.wrap ((l.l1.length : Int) - n) then (0 : Int) else IntKind.i64.wrap ((l.l1.length : Int) - n))).toNat).take ((l.l1.length : Int) - (if (0 : Int) > IntKind.i64.wrap ((l.l1.length : Int) - n) then (0 : Int) else IntKind.i64.wrap ((l.l1.length : Int) - n))).toNat).length ≤ most) _
    refine ⟨by rw [e1, e2, mv1]; simp; have hs : l.l1.length + m.l1.length ≤ most := hsum; omega, ?_⟩
    show AOb ((0 : Int) ≤ 1 ∧ (1 : Int) < 3) _
    refine ⟨by decide, ?_⟩
    show AOb ((0 : Int) ≤ 1 ∧ (1 : Int) < 3) _
    refine ⟨by decide, ?_⟩
    show AOb ((0 : Int) ≤ (if (0 : Int) > IntKind.i64.wrap ((l.l1.length : Int) - n) then (0 : Int) else IntKind.i64.wrap ((l.l1.length : Int) - n)) ∧ (if (0 : Int) > IntKind.i64.wrap ((l.l1.length : Int) - n) then (0 : Int) else IntKind.i64.wrap ((l.l1.length : Int) - n)) ≤ ((revd l.l1 ((if (0 : Int) > IntKind.i64.wrap ((l.l1.length : Int) - n) then (0 : Int) else IntKind.i64.wrap ((l.l1.length : Int) - n))).toNat ((l.l1.length : Int) - (if (0 : Int) > IntKind.i64.wrap ((l.l1.length : Int) - n) then (0 : Int) else IntKind.i64.wrap ((l.l1.length : Int) - n))).toNat).length : Int)) _
    refine ⟨by rw [e1, e2, hrl, hE]; omega, ?_⟩
    show AOb ((0 : Int) ≤ 1 ∧ (1 : Int) < 3) _
    refine ⟨by decide, ?_⟩
    show ARet _ _ _
    refine ⟨[], [], [(l.set_ 1 ((l.at_ 1).take (leftOf (l.at_ 1).length n))).tv, (m.set_ 1 (m.at_ 1 ++ ((l.at_ 1).drop (leftOf (l.at_ 1).length n)).reverse)).tv, .int 0], .cons _ _ _ _ (.agg _ _ (.cons _ _ _ _ (.frz _ _ rfl) (.cons _ _ _ _ (.frzv (k := .int) (l := revd l.l1 ((if (0 : Int) > IntKind.i64.wrap ((l.l1.length : Int) - n) then (0 : Int) else IntKind.i64.wrap ((l.l1.length : Int) - n))).toNat ((l.l1.length : Int) - (if (0 : Int) > IntKind.i64.wrap ((l.l1.length : Int) - n) then (0 : Int) else IntKind.i64.wrap ((l.l1.length : Int) - n))).toNat) rfl rfl ?_ ?_) (.cons _ _ _ _ (.frz _ _ rfl) .nil)))) (.cons _ _ _ _ (.agg _ _ (.cons _ _ _ _ (.frz _ _ rfl) (.cons _ _ _ _ (.frz_eq rfl ?_) (.cons _ _ _ _ (.frz _ _ rfl) .nil)))) (.cons _ _ _ _ .same .nil)), .nil, rfl, rfl, rfl⟩
    · show 0 + ((if (0 : Int) > IntKind.i64.wrap ((l.l1.length : Int) - n) then (0 : Int) else IntKind.i64.wrap ((l.l1.length : Int) - n)) - 0).toNat ≤ (revd l.l1 ((if (0 : Int) > IntKind.i64.wrap ((l.l1.length : Int) - n) then (0 : Int) else IntKind.i64.wrap ((l.l1.length : Int) - n))).toNat ((l.l1.length : Int) - (if (0 : Int) > IntKind.i64.wrap ((l.l1.length : Int) - n) then (0 : Int) else IntKind.i64.wrap ((l.l1.length : Int) - n))).toNat).length
      rw [e1, e2, hrl, hE]; omega
    · show ((revd l.l1 ((if (0 : Int) > IntKind.i64.wrap ((l.l1.length : Int) - n) then (0 : Int) else IntKind.i64.wrap ((l.l1.length : Int) - n))).toNat ((l.l1.length : Int) - (if (0 : Int) > IntKind.i64.wrap ((l.l1.length : Int) - n) then (0 : Int) else IntKind.i64.wrap ((l.l1.length : Int) - n))).toNat).drop 0).take ((if (0 : Int) > IntKind.i64.wrap ((l.l1.length : Int) - n) then (0 : Int) else IntKind.i64.wrap ((l.l1.length : Int) - n)) - 0).toNat = l.l1.take (leftOf l.l1.length n)
      rw [Int.sub_zero, e1, e2, List.drop_zero, mv2]
    · show m.l1 ++ ((revd l.l1 ((if (0 : Int) > IntKind.i64.wrap ((l.l1.length : Int) - n) then (0 : Int) else IntKind.i64.wrap ((l.l1.length : Int) - n))).toNat ((l.l1.length : Int) - (if (0 : Int) > IntKind.i64.wrap ((l.l1.length : Int) - n) then (0 : Int) else IntKind.i64.wrap ((l.l1.length : Int) - n))).toNat).drop ((if (0 : Int) > IntKind.i64.wrap ((l.l1.length : Int) - n) then (0 : Int) else IntKind.i64.wrap ((l.l1.length : Int) - n))).toNat).take ((l.l1.length : Int) - (if (0 : Int) > IntKind.i64.wrap ((l.l1.length : Int) - n) then (0 : Int) else IntKind.i64.wrap ((l.l1.length : Int) - n))).toNat = _
      rw [e1, e2, mv1]
      rfl
  · have hm : l.l2.length ≤ 68719476736 := hok.2.2
    have hE : (if (0 : Int) > IntKind.i64.wrap ((l.l2.length : Int) - n) then (0 : Int) else IntKind.i64.wrap ((l.l2.length : Int) - n)) = ((leftOf l.l2.length n : Nat) : Int) := left_eq hm h0 h1
    have hlf : leftOf l.l2.length n ≤ l.l2.length := by unfold leftOf; omega
    show ACall _ _ _ _ _ _
    refine call_ret (is_spec 2) rfl ?_
    show ABr (cond false true (decide (n < 0))) _ _
    refine ⟨fun hb => absurd hb (by simp; omega), fun _ => ?_⟩
    show ADCall _ _ _ _ _ _
    refine .mk _ _ (lown_spec l hok) rfl ?_
    show ADCall _ _ _ _ _ _
    refine .mk _ _ (lown_spec m hok') rfl ?_
    show AOb ((0 : Int) ≤ 2 ∧ (2 : Int) < 3) _
    refine ⟨by decide, ?_⟩
    show AOb ((0 : Int) ≤ 2 ∧ (2 : Int) < 3) _
    refine ⟨by decide, ?_⟩
    show AOb ((0 : Int) ≤ (if (0 : Int) > IntKind.i64.wrap ((l.l2.length : Int) - n) then (0 : Int) else IntKind.i64.wrap ((l.l2.length : Int) - n)) ∧ (if (0 : Int) > IntKind.i64.wrap ((l.l2.length : Int) - n) then (0 : Int) else IntKind.i64.wrap ((l.l2.length : Int) - n)) ≤ (l.l2.length : Int)) _
    refine ⟨by rw [hE]; omega, ?_⟩
    show ACall _ _ _ _ _ _
    refine .hand [(450, 16)] (hp16 l.l2) [.c (.view 16 ((if (0 : Int) > IntKind.i64.wrap ((l.l2.length : Int) - n) then (0 : Int) else IntKind.i64.wrap ((l.l2.length : Int) - n))).toNat ((l.l2.length : Int) - (if (0 : Int) > IntKind.i64.wrap ((l.l2.length : Int) - n) then (0 : Int) else IntKind.i64.wrap ((l.l2.length : Int) - n))).toNat)] _ (.cons _ _ _ _ (.c _ _ (.view _ _ _ _ rfl)) .nil) (.old 16 450 _ _ _ rfl rfl (.data_eq rfl) .nil) rfl (Reverse_spec l.l2 _ _ (by rw [hE]; omega)) ?_
    rintro H r ⟨rfl, rfl⟩ _ _
    refine ⟨rfl, .inr ⟨rfl, rfl⟩, ?_⟩
    have e1 : ((if (0 : Int) > IntKind.i64.wrap ((l.l2.length : Int) - n) then (0 : Int) else IntKind.i64.wrap ((l.l2.length : Int) - n))).toNat = leftOf l.l2.length n := by rw [hE]; omega
    have e2 : ((l.l2.length : Int) - (if (0 : Int) > IntKind.i64.wrap ((l.l2.length : Int) - n) then (0 : Int) else IntKind.i64.wrap ((l.l2.length : Int) - n))).toNat = l.l2.length - leftOf l.l2.length n := by rw [hE]; omega
    obtain ⟨mv1, mv2⟩ := moved l.l2 _ hlf
    have hrl := revd_len l.l2 (leftOf l.l2.length n) (l.l2.length - leftOf l.l2.length n) (by omega)
    show AOb ((0 : Int) ≤ 2 ∧ (2 : Int) < 3) _
    refine ⟨by decide, ?_⟩
    show AOb (m.l2.length + (((revd l.l2 ((if (0 : Int) > IntKind.i64.wrap ((l.l2.length : Int) - n) then (0 : Int) else IntKind.i64.wrap ((l.l2.length : Int) - n))).toNat ((l.l2.length : Int) - (if (0 : Int) > IntKind.i64.wrap ((l.l2.length : Int) - n) then (0 : Int) else IntKind.i64.wrap ((l.l2.length : Int) - n))).toNat).drop ((if (0 : Int) > IntKind.i64.wrap ((l.l2.length : Int) - n) then (0 : Int) else IntKind.i64.wrap ((l.l2.length : Int) - n))).toNat).take ((l.l2.length : Int) - (if (0 : Int) > IntKind.i64.wrap ((l.l2.length : Int) - n) then (0 : Int) else IntKind.i64.wrap ((l.l2.length : Int) - n))).toNat).length ≤ most) _
    refine ⟨by rw [e1, e2, mv1]; simp; have hs : l.l2.length + m.l2.length ≤ most := hsum; omega, ?_⟩
    show AOb ((0 : Int) ≤ 2 ∧ (2 : Int) < 3) _
    refine ⟨by decide, ?_⟩
    show AOb ((0 : Int) ≤ 2 ∧ (2 : Int) < 3) _
    refine ⟨by decide, ?_⟩
    show AOb ((0 : Int) ≤ (if (0 : Int) > IntKind.i64.wrap ((l.l2.length : Int) - n) then (0 : Int) else IntKind.i64.wrap ((l.l2.length : Int) - n)) ∧ (if (0 : Int) > IntKind.i64.wrap ((l.l2.length : Int) - n) then (0 : Int) else IntKind.i64.wrap ((l.l2.length : Int) - n)) ≤ ((revd l.l2 ((if (0 : Int) > IntKind.i64.wrap ((l.l2.length : Int) - n) then (0 : Int) else IntKind.i64.wrap ((l.l2.length : Int) - n))).toNat ((l.l2.length : Int) - (if (0 : Int) > IntKind.i64.wrap ((l.l2.length : Int) - n) then (0 : Int) else IntKind.i64.wrap ((l.l2.length : Int) - n))).toNat).length : Int)) _
    refine ⟨by rw [e1, e2, hrl, hE]; omega, ?_⟩
    show AOb ((0 : Int) ≤ 2 ∧ (2 : Int) < 3) _
    refine ⟨by decide, ?_⟩
    show ARet _ _ _
    refine ⟨[], [], [(l.set_ 2 ((l.at_ 2).take (leftOf (l.at_ 2).length n))).tv, (m.set_ 2 (m.at_ 2 ++ ((l.at_ 2).drop (leftOf (l.at_ 2).length n)).reverse)).tv, .int 0], .cons _ _ _ _ (.agg _ _ (.cons _ _ _ _ (.frz _ _ rfl) (.cons _ _ _ _ (.frz _ _ rfl) (.cons _ _ _ _ (.frzv (k := .int) (l := revd l.l2 ((if (0 : Int) > IntKind.i64.wrap ((l.l2.length : Int) - n) then (0 : Int) else IntKind.i64.wrap ((l.l2.length : Int) - n))).toNat ((l.l2.length : Int) - (if (0 : Int) > IntKind.i64.wrap ((l.l2.length : Int) - n) then (0 : Int) else IntKind.i64.wrap ((l.l2.length : Int) - n))).toNat) rfl rfl ?_ ?_) .nil)))) (.cons _ _ _ _ (.agg _ _ (.cons _ _ _ _ (.frz _ _ rfl) (.cons _ _ _ _ (.frz _ _ rfl) (.cons _ _ _ _ (.frz_eq rfl ?_) .nil)))) (.cons _ _ _ _ .same .nil)), .nil, rfl, rfl, rfl⟩
    · show 0 + ((if (0 : Int) > IntKind.i64.wrap ((l.l2.length : Int) - n) then (0 : Int) else IntKind.i64.wrap ((l.l2.length : Int) - n)) - 0).toNat ≤ (revd l.l2 ((if (0 : Int) > IntKind.i64.wrap ((l.l2.length : Int) - n) then (0 : Int) else IntKind.i64.wrap ((l.l2.length : Int) - n))).toNat ((l.l2.length : Int) - (if (0 : Int) > IntKind.i64.wrap ((l.l2.length : Int) - n) then (0 : Int) else IntKind.i64.wrap ((l.l2.length : Int) - n))).toNat).length
      rw [e1, e2, hrl, hE]; omega
    · show ((revd l.l2 ((if (0 : Int) > IntKind.i64.wrap ((l.l2.length : Int) - n) then (0 : Int) else IntKind.i64.wrap ((l.l2.length : Int) - n))).toNat ((l.l2.length : Int) - (if (0 : Int) > IntKind.i64.wrap ((l.l2.length : Int) - n) then (0 : Int) else IntKind.i64.wrap ((l.l2.length : Int) - n))).toNat).drop 0).take ((if (0 : Int) > IntKind.i64.wrap ((l.l2.length : Int) - n) then (0 : Int) else IntKind.i64.wrap ((l.l2.length : Int) - n)) - 0).toNat = l.l2.take (leftOf l.l2.length n)
      rw [Int.sub_zero, e1, e2, List.drop_zero, mv2]
    · show m.l2 ++ ((revd l.l2 ((if (0 : Int) > IntKind.i64.wrap ((l.l2.length : Int) - n) then (0 : Int) else IntKind.i64.wrap ((l.l2.length : Int) - n))).toNat ((l.l2.length : Int) - (if (0 : Int) > IntKind.i64.wrap ((l.l2.length : Int) - n) then (0 : Int) else IntKind.i64.wrap ((l.l2.length : Int) - n))).toNat).drop ((if (0 : Int) > IntKind.i64.wrap ((l.l2.length : Int) - n) then (0 : Int) else IntKind.i64.wrap ((l.l2.length : Int) - n))).toNat).take ((l.l2.length : Int) - (if (0 : Int) > IntKind.i64.wrap ((l.l2.length : Int) - n) then (0 : Int) else IntKind.i64.wrap ((l.l2.length : Int) - n))).toNat = _
      rw [e1, e2, mv1]
      rfl
end Go.Abs
