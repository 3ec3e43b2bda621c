/- Walks: the document's lists: Push, Pop, Move, Part. -/
import Derived.Test.YtlknhkocpjjkdaaWPart
set_option linter.all false
set_option linter.unusedVariables false
set_option linter.unusedSimpArgs false
namespace Go.Abs
open Go.Proofs Go.Proofs.Ytlknhkocpjjkdaa
set_option maxRecDepth 8000

theorem LeC.own2 {ρ : List (Nat × Nat)} {h h' : Heap} {b0 c0 : Nat} (b c : Nat) (hb : Nat.beq b0 b = false) : LeC ((b0, c0) :: (b, c) :: ρ) h h' (.own b) (.own c) := .own b c (by simp only [nmOf, hb, cond_false, Nat.beq_refl, cond_true])
theorem LeC.own3 {ρ : List (Nat × Nat)} {h h' : Heap} {b0 c0 b1 c1 : Nat} (b c : Nat) (hb : (Nat.beq b0 b || Nat.beq b1 b) = false) : LeC ((b0, c0) :: (b1, c1) :: (b, c) :: ρ) h h' (.own b) (.own c) := .own b c (by
  simp only [Bool.or_eq_false_iff] at hb
  simp only [nmOf, hb.1, hb.2, cond_false, Nat.beq_refl, cond_true])

theorem rOwn_own (l : Lists) (h : l.ok) : Spec X 41 [] [l.tv] (Ret (own3 l) own3T) := by
  refine spec_go X_ok Try.f41 (by kernel_rfl) (by kernel_rfl) (by kernel_rfl) fun _ _ => ⟨rfl, ?_⟩
  show ∃ n, _
  refine ⟨4, .next ?_⟩
  show ABr _ _ _
  refine ⟨fun _ => ?_, fun hb => absurd hb (by decide)⟩
  show AOb _ _
  refine ⟨by decide, ?_⟩
  show AOb (l.l0.length ≤ most) _
  refine ⟨h.1, ?_⟩
  show AOb _ _
  refine ⟨by decide, ?_⟩
  show ALoop _ _ _ _
  refine .next ?_
  show ABr _ _ _
  refine ⟨fun _ => ?_, fun hb => absurd hb (by decide)⟩
  show AOb _ _
  refine ⟨by decide, ?_⟩
  show AOb (l.l1.length ≤ most) _
  refine ⟨h.2.1, ?_⟩
  show AOb _ _
  refine ⟨by decide, ?_⟩
  show ALoop _ _ _ _
  refine .next ?_
  show ABr _ _ _
  refine ⟨fun _ => ?_, fun hb => absurd hb (by decide)⟩
  show AOb _ _
  refine ⟨by decide, ?_⟩
  show AOb (l.l2.length ≤ most) _
  refine ⟨h.2.2, ?_⟩
  show AOb _ _
  refine ⟨by decide, ?_⟩
  show ALoop _ _ _ _
  refine .next ?_
  show ABr _ _ _
  refine ⟨fun hb => absurd hb (by decide), fun _ => ?_⟩
  show ARet _ _ _
  exact ⟨[(_, 0), (_, 1), (_, 2)], own3 l, [own3T], .cons _ _ _ _ (.agg _ _ (.cons _ _ _ _ (.own1 _ _) (.cons _ _ _ _ (.own2 _ _ rfl) (.cons _ _ _ _ (.own3 _ _ rfl) .nil)))) .nil,
    .old 0 _ _ _ _ rfl rfl (.data_eq rfl) (.old 1 _ _ _ _ rfl rfl (.data_eq rfl) (.old 2 _ _ _ _ rfl rfl (.data_eq rfl) .nil)), rfl, rfl, rfl⟩

theorem rPush_bad (l : Lists) (c : Int) (a : List Int) (h : ¬ (0 ≤ c ∧ c ≤ 2)) : Spec X 34 [] [l.tv, .int c, .c (.d (.sl .int a))] (Ret [] (.tup [Lists.zero.tv, .int 1])) := by
  refine spec_go X_ok Try.f34 (by kernel_rfl) (by kernel_rfl) (by kernel_rfl) fun _ _ => ⟨rfl, ?_⟩
  show ABr (cond (decide (c < 0)) true (decide (c > 2))) _ _
  refine ⟨fun _ => ?_, fun hb => absurd hb (by simp; omega)⟩
  show ARet _ _ _
  refine ⟨[], [], [Lists.zero.tv, .int 1], .cons _ _ _ _ (.agg _ _ ?_) (.cons _ _ _ _ .same .nil), .nil, rfl, ⟨rfl, rfl⟩⟩
  repeat (first | exact .nil | refine .cons _ _ _ _ (.d _) ?_ | refine .cons _ _ _ _ (.nilsl _) ?_)

theorem take_step (a : List Int) (i : Nat) (h : i < a.length) : a.take (i + 1) = a.take i ++ [at0 a i] := by
  rw [List.take_add_one, List.getElem?_eq_getElem h, at0_get h]
  rfl

theorem rPush_spec (l : Lists) (c : Int) (a : List Int) (h : 0 ≤ c ∧ c ≤ 2) (hok : l.ok) (hm : (l.at_ c).length + a.length ≤ most) : Spec X 34 [] [l.tv, .int c, .c (.d (.sl .int a))] (Ret [] (.tup [(l.set_ c (l.at_ c ++ a)).tv, .int 0])) := by
  refine spec_go X_ok Try.f34 (by kernel_rfl) (by kernel_rfl) (by kernel_rfl) fun _ _ => ⟨rfl, ?_⟩
  have hm' : (l.at_ c).length + a.length ≤ 68719476736 := hm
  have hc : c = 0 ∨ c = 1 ∨ c = 2 := by omega
  rcases hc with rfl | rfl | rfl
  · have hm' : l.l0.length + a.length ≤ 68719476736 := hm'
    show ABr _ _ _
    refine ⟨fun hb => absurd hb (by decide), fun _ => ?_⟩
    show ACall _ _ _ _ _ _
    refine .mk _ (rOwn_own l hok) ?_
    rintro H r ⟨rfl, rfl⟩ _ _
    refine ⟨.inl rfl, ?_⟩
    show ∃ n, _
    refine ⟨0, ALoop.inv (ι := {i : Nat // i ≤ a.length}) (fun i => ⟨[(1, .int 0), (2, .c (.d (.sl .int a))), (8, .c (.ptr 0 0 0)), (6, .c (.ptr 1 0 0)), (9, .int i.1)], [(0, .vars [.own 2, .own 3, .own 4]), (1, .vars [.d .nilsl, .d .nilsl, .d .nilsl]), (2, .data .int (l.l0 ++ a.take i.1)), (3, .data .int l.l1), (4, .data .int l.l2)], 32⟩) (fun i => a.length - i.1) ⟨0, Nat.zero_le _⟩ ?_ ?_⟩
    · exact ⟨[(384, 0), (64, 1), (352, 2), (353, 3), (354, 4)], .cons _ _ _ .same (.cons _ _ _ .same (.cons _ _ _ (.c _ _ (.ptr _ _ _ _ rfl)) (.cons _ _ _ (.c _ _ (.ptr _ _ _ _ rfl)) (.cons _ _ _ .same .nil)))), .old 0 384 _ _ _ rfl rfl (.vars _ _ (.cons _ _ _ _ (.own _ _ rfl) (.cons _ _ _ _ (.own _ _ rfl) (.cons _ _ _ _ (.own _ _ rfl) .nil)))) (.old 1 64 _ _ _ rfl rfl (.vars _ _ (LeL_refl rfl)) (.old 2 352 _ _ _ rfl rfl (.data_eq (List.append_nil _).symm) (.old 3 353 _ _ _ rfl rfl (.data_eq rfl) (.old 4 354 _ _ _ rfl rfl (.data_eq rfl) .nil)))), rfl⟩
    · rintro ⟨i, hi⟩
      show ABr (decide ((i : Int) < (a.length : Int))) _ _
      refine ⟨fun h2 => ?_, fun h2 => ?_⟩
      · have hlt : i < a.length := by simpa using h2
        have e1 := take_step a i hlt
        show AOb ((0 : Int) ≤ 0 ∧ (0 : Int) < 3) _
        refine ⟨by decide, ?_⟩
        show AOb ((0 : Int) ≤ (i : Int) ∧ (i : Int) < (a.length : Int)) _
        refine ⟨by omega, ?_⟩
        show AOb ((l.l0 ++ a.take i).length + 1 ≤ most) _
        refine ⟨by unfold most; simp; omega, ?_⟩
        show AOb ((0 : Int) ≤ 0 ∧ (0 : Int) < 3) _
        refine ⟨by decide, ?_⟩
        show ARound _ _ _ _
        refine ⟨⟨i + 1, hlt⟩, Nat.sub_lt_sub_left hlt (Nat.lt_succ_self i), [(_, 2), (0, 0), (1, 1), (3, 3), (4, 4)], .cons _ _ _ .same (.cons _ _ _ .same (.cons _ _ _ (.c _ _ (.ptr _ _ _ _ rfl)) (.cons _ _ _ (.c _ _ (.ptr _ _ _ _ rfl)) (.cons _ _ _ (.int_eq (wrapP (i := i) (by unfold maxN; omega))) .nil)))), .old 0 0 _ _ _ rfl rfl (.vars _ _ (.cons _ _ _ _ (.own1 _ _) (.cons _ _ _ _ (.own _ _ rfl) (.cons _ _ _ _ (.own _ _ rfl) .nil)))) (.old 1 1 _ _ _ rfl rfl (.vars _ _ (LeL_refl rfl)) (.old 2 _ _ _ _ rfl rfl (.data_eq ?_) (.old 3 3 _ _ _ rfl rfl (.data_eq rfl) (.old 4 4 _ _ _ rfl rfl (.data_eq rfl) .nil)))), rfl⟩
        show l.l0 ++ a.take i ++ [at0 a i] = l.l0 ++ a.take (i + 1)
        rw [e1, List.append_assoc]
      · have hge : i = a.length := by simp at h2; omega
        show ARet _ _ _
        refine ⟨[], [], [(l.set_ 0 (l.at_ 0 ++ a)).tv, .int 0], .cons _ _ _ _ (.agg _ _ (.cons _ _ _ _ (.frz_eq rfl ?_) (.cons _ _ _ _ (.frz _ _ rfl) (.cons _ _ _ _ (.frz _ _ rfl) .nil)))) (.cons _ _ _ _ .same .nil), .nil, rfl, rfl, rfl⟩
        show l.l0 ++ a.take i = l.l0 ++ a
        rw [hge, List.take_length]
  · have hm' : l.l1.length + a.length ≤ 68719476736 := hm'
    show ABr _ _ _
    refine ⟨fun hb => absurd hb (by decide), fun _ => ?_⟩
    show ACall _ _ _ _ _ _
    refine .mk _ (rOwn_own l hok) ?_
    rintro H r ⟨rfl, rfl⟩ _ _
    refine ⟨.inl rfl, ?_⟩
    show ∃ n, _
    refine ⟨0, ALoop.inv (ι := {i : Nat // i ≤ a.length}) (fun i => ⟨[(1, .int 1), (2, .c (.d (.sl .int a))), (8, .c (.ptr 0 0 0)), (6, .c (.ptr 1 0 0)), (9, .int i.1)], [(0, .vars [.own 2, .own 3, .own 4]), (1, .vars [.d .nilsl, .d .nilsl, .d .nilsl]), (2, .data .int l.l0), (3, .data .int (l.l1 ++ a.take i.1)), (4, .data .int l.l2)], 32⟩) (fun i => a.length - i.1) ⟨0, Nat.zero_le _⟩ ?_ ?_⟩
    · exact ⟨[(384, 0), (64, 1), (352, 2), (353, 3), (354, 4)], .cons _ _ _ .same (.cons _ _ _ .same (.cons _ _ _ (.c _ _ (.ptr _ _ _ _ rfl)) (.cons _ _ _ (.c _ _ (.ptr _ _ _ _ rfl)) (.cons _ _ _ .same .nil)))), .old 0 384 _ _ _ rfl rfl (.vars _ _ (.cons _ _ _ _ (.own _ _ rfl) (.cons _ _ _ _ (.own _ _ rfl) (.cons _ _ _ _ (.own _ _ rfl) .nil)))) (.old 1 64 _ _ _ rfl rfl (.vars _ _ (LeL_refl rfl)) (.old 2 352 _ _ _ rfl rfl (.data_eq rfl) (.old 3 353 _ _ _ rfl rfl (.data_eq (List.append_nil _).symm) (.old 4 354 _ _ _ rfl rfl (.data_eq rfl) .nil)))), rfl⟩
    · rintro ⟨i, hi⟩
      show ABr (decide ((i : Int) < (a.length : Int))) _ _
      refine ⟨fun h2 => ?_, fun h2 => ?_⟩
      · have hlt : i < a.length := by simpa using h2
        have e1 := take_step a i hlt
        show AOb ((0 : Int) ≤ 1 ∧ (1 : Int) < 3) _
        refine ⟨by decide, ?_⟩
        show AOb ((0 : Int) ≤ (i : Int) ∧ (i : Int) < (a.length : Int)) _
        refine ⟨by omega, ?_⟩
        show AOb ((l.l1 ++ a.take i).length + 1 ≤ most) _
        refine ⟨by unfold most; simp; omega, ?_⟩
        show AOb ((0 : Int) ≤ 1 ∧ (1 : Int) < 3) _
        refine ⟨by decide, ?_⟩
        show ARound _ _ _ _
        refine ⟨⟨i + 1, hlt⟩, Nat.sub_lt_sub_left hlt (Nat.lt_succ_self i), [(_, 3), (0, 0), (1, 1), (2, 2), (4, 4)], .cons _ _ _ .same (.cons _ _ _ .same (.cons _ _ _ (.c _ _ (.ptr _ _ _ _ rfl)) (.cons _ _ _ (.c _ _ (.ptr _ _ _ _ rfl)) (.cons _ _ _ (.int_eq (wrapP (i := i) (by unfold maxN; omega))) .nil)))), .old 0 0 _ _ _ rfl rfl (.vars _ _ (.cons _ _ _ _ (.own _ _ rfl) (.cons _ _ _ _ (.own1 _ _) (.cons _ _ _ _ (.own _ _ rfl) .nil)))) (.old 1 1 _ _ _ rfl rfl (.vars _ _ (LeL_refl rfl)) (.old 2 2 _ _ _ rfl rfl (.data_eq rfl) (.old 3 _ _ _ _ rfl rfl (.data_eq ?_) (.old 4 4 _ _ _ rfl rfl (.data_eq rfl) .nil)))), rfl⟩
        show l.l1 ++ a.take i ++ [at0 a i] = l.l1 ++ a.take (i + 1)
        rw [e1, List.append_assoc]
      · have hge : i = a.length := by simp at h2; omega
        show ARet _ _ _
        refine ⟨[], [], [(l.set_ 1 (l.at_ 1 ++ a)).tv, .int 0], .cons _ _ _ _ (.agg _ _ (.cons _ _ _ _ (.frz _ _ rfl) (.cons _ _ _ _ (.frz_eq rfl ?_) (.cons _ _ _ _ (.frz _ _ rfl) .nil)))) (.cons _ _ _ _ .same .nil), .nil, rfl, rfl, rfl⟩
        show l.l1 ++ a.take i = l.l1 ++ a
        rw [hge, List.take_length]
  · have hm' : l.l2.length + a.length ≤ 68719476736 := hm'
    show ABr _ _ _
    refine ⟨fun hb => absurd hb (by decide), fun _ => ?_⟩
    show ACall _ _ _ _ _ _
    refine .mk _ (rOwn_own l hok) ?_
    rintro H r ⟨rfl, rfl⟩ _ _
    refine ⟨.inl rfl, ?_⟩
    show ∃ n, _
    refine ⟨0, ALoop.inv (ι := {i : Nat // i ≤ a.length}) (fun i => ⟨[(1, .int 2), (2, .c (.d (.sl .int a))), (8, .c (.ptr 0 0 0)), (6, .c (.ptr 1 0 0)), (9, .int i.1)], [(0, .vars [.own 2, .own 3, .own 4]), (1, .vars [.d .nilsl, .d .nilsl, .d .nilsl]), (2, .data .int l.l0), (3, .data .int l.l1), (4, .data .int (l.l2 ++ a.take i.1))], 32⟩) (fun i => a.length - i.1) ⟨0, Nat.zero_le _⟩ ?_ ?_⟩
    · exact ⟨[(384, 0), (64, 1), (352, 2), (353, 3), (354, 4)], .cons _ _ _ .same (.cons _ _ _ .same (.cons _ _ _ (.c _ _ (.ptr _ _ _ _ rfl)) (.cons _ _ _ (.c _ _ (.ptr _ _ _ _ rfl)) (.cons _ _ _ .same .nil)))), .old 0 384 _ _ _ rfl rfl (.vars _ _ (.cons _ _ _ _ (.own _ _ rfl) (.cons _ _ _ _ (.own _ _ rfl) (.cons _ _ _ _ (.own _ _ rfl) .nil)))) (.old 1 64 _ _ _ rfl rfl (.vars _ _ (LeL_refl rfl)) (.old 2 352 _ _ _ rfl rfl (.data_eq rfl) (.old 3 353 _ _ _ rfl rfl (.data_eq rfl) (.old 4 354 _ _ _ rfl rfl (.data_eq (List.append_nil _).symm) .nil)))), rfl⟩
    · rintro ⟨i, hi⟩
      show ABr (decide ((i : Int) < (a.length : Int))) _ _
      refine ⟨fun h2 => ?_, fun h2 => ?_⟩
      · have hlt : i < a.length := by simpa using h2
        have e1 := take_step a i hlt
        show AOb ((0 : Int) ≤ 2 ∧ (2 : Int) < 3) _
        refine ⟨by decide, ?_⟩
        show AOb ((0 : Int) ≤ (i : Int) ∧ (i : Int) < (a.length : Int)) _
        refine ⟨by omega, ?_⟩
        show AOb ((l.l2 ++ a.take i).length + 1 ≤ most) _
        refine ⟨by unfold most; simp; omega, ?_⟩
        show AOb ((0 : Int) ≤ 2 ∧ (2 : Int) < 3) _
        refine ⟨by decide, ?_⟩
        show ARound _ _ _ _
        refine ⟨⟨i + 1, hlt⟩, Nat.sub_lt_sub_left hlt (Nat.lt_succ_self i), [(_, 4), (0, 0), (1, 1), (2, 2), (3, 3)], .cons _ _ _ .same (.cons _ _ _ .same (.cons _ _ _ (.c _ _ (.ptr _ _ _ _ rfl)) (.cons _ _ _ (.c _ _ (.ptr _ _ _ _ rfl)) (.cons _ _ _ (.int_eq (wrapP (i := i) (by unfold maxN; omega))) .nil)))), .old 0 0 _ _ _ rfl rfl (.vars _ _ (.cons _ _ _ _ (.own _ _ rfl) (.cons _ _ _ _ (.own _ _ rfl) (.cons _ _ _ _ (.own1 _ _) .nil)))) (.old 1 1 _ _ _ rfl rfl (.vars _ _ (LeL_refl rfl)) (.old 2 2 _ _ _ rfl rfl (.data_eq rfl) (.old 3 3 _ _ _ rfl rfl (.data_eq rfl) (.old 4 _ _ _ _ rfl rfl (.data_eq ?_) .nil)))), rfl⟩
        show l.l2 ++ a.take i ++ [at0 a i] = l.l2 ++ a.take (i + 1)
        rw [e1, List.append_assoc]
      · have hge : i = a.length := by simp at h2; omega
        show ARet _ _ _
        refine ⟨[], [], [(l.set_ 2 (l.at_ 2 ++ a)).tv, .int 0], .cons _ _ _ _ (.agg _ _ (.cons _ _ _ _ (.frz _ _ rfl) (.cons _ _ _ _ (.frz _ _ rfl) (.cons _ _ _ _ (.frz_eq rfl ?_) .nil)))) (.cons _ _ _ _ .same .nil), .nil, rfl, rfl, rfl⟩
        show l.l2 ++ a.take i = l.l2 ++ a
        rw [hge, List.take_length]
end Go.Abs

namespace Go.Abs
open Go.Proofs Go.Proofs.Ytlknhkocpjjkdaa
set_option maxRecDepth 8000

theorem rPop_bad (l : Lists) (c : Int) (h : ¬ (0 ≤ c ∧ c ≤ 2)) : Spec X 35 [] [l.tv, .int c] (Ret [] (.tup [Lists.zero.tv, .int 0, .int 1])) := by
  refine spec_go X_ok Try.f35 (by kernel_rfl) (by kernel_rfl) (by kernel_rfl) fun _ _ => ⟨rfl, ?_⟩
  show ABr (cond (decide (c < 0)) true (decide (c > 2))) _ _
  refine ⟨fun _ => ?_, fun hb => absurd hb (by simp; omega)⟩
  show ARet _ _ _
  refine ⟨[], [], [Lists.zero.tv, .int 0, .int 1], .cons _ _ _ _ (.agg _ _ ?_) (.cons _ _ _ _ .same (.cons _ _ _ _ .same .nil)), .nil, rfl, ⟨rfl, rfl⟩⟩
  repeat (first | exact .nil | refine .cons _ _ _ _ (.d _) ?_ | refine .cons _ _ _ _ (.nilsl _) ?_)

theorem rPop_none (l : Lists) (c : Int) (h : 0 ≤ c ∧ c ≤ 2) (h0 : l.at_ c = []) : Spec X 35 [] [l.tv, .int c] (Ret [] (.tup [Lists.zero.tv, .int 0, .int 3])) := by
  refine spec_go X_ok Try.f35 (by kernel_rfl) (by kernel_rfl) (by kernel_rfl) fun _ _ => ⟨rfl, ?_⟩
  have hc : c = 0 ∨ c = 1 ∨ c = 2 := by omega
  rcases hc with rfl | rfl | rfl
  · show ABr _ _ _
    refine ⟨fun hb => absurd hb (by decide), fun _ => ?_⟩
    show AOb ((0 : Int) ≤ 0 ∧ (0 : Int) < 3) _
    refine ⟨by decide, ?_⟩
    show ABr (decide ((l.l0.length : Int) = 0)) _ _
    have e : l.l0 = [] := h0
    refine ⟨fun _ => ?_, fun hb => absurd hb (by rw [e]; decide)⟩
    show ARet _ _ _
    refine ⟨[], [], [Lists.zero.tv, .int 0, .int 3], .cons _ _ _ _ (.agg _ _ ?_) (.cons _ _ _ _ .same (.cons _ _ _ _ .same .nil)), .nil, rfl, ⟨rfl, rfl⟩⟩
    repeat (first | exact .nil | refine .cons _ _ _ _ (.d _) ?_ | refine .cons _ _ _ _ (.nilsl _) ?_)
  · show ABr _ _ _
    refine ⟨fun hb => absurd hb (by decide), fun _ => ?_⟩
    show AOb ((0 : Int) ≤ 1 ∧ (1 : Int) < 3) _
    refine ⟨by decide, ?_⟩
    show ABr (decide ((l.l1.length : Int) = 0)) _ _
    have e : l.l1 = [] := h0
    refine ⟨fun _ => ?_, fun hb => absurd hb (by rw [e]; decide)⟩
    show ARet _ _ _
    refine ⟨[], [], [Lists.zero.tv, .int 0, .int 3], .cons _ _ _ _ (.agg _ _ ?_) (.cons _ _ _ _ .same (.cons _ _ _ _ .same .nil)), .nil, rfl, ⟨rfl, rfl⟩⟩
    repeat (first | exact .nil | refine .cons _ _ _ _ (.d _) ?_ | refine .cons _ _ _ _ (.nilsl _) ?_)
  · show ABr _ _ _
    refine ⟨fun hb => absurd hb (by decide), fun _ => ?_⟩
    show AOb ((0 : Int) ≤ 2 ∧ (2 : Int) < 3) _
    refine ⟨by decide, ?_⟩
    show ABr (decide ((l.l2.length : Int) = 0)) _ _
    have e : l.l2 = [] := h0
    refine ⟨fun _ => ?_, fun hb => absurd hb (by rw [e]; decide)⟩
    show ARet _ _ _
    refine ⟨[], [], [Lists.zero.tv, .int 0, .int 3], .cons _ _ _ _ (.agg _ _ ?_) (.cons _ _ _ _ .same (.cons _ _ _ _ .same .nil)), .nil, rfl, ⟨rfl, rfl⟩⟩
    repeat (first | exact .nil | refine .cons _ _ _ _ (.d _) ?_ | refine .cons _ _ _ _ (.nilsl _) ?_)

theorem rPop_spec (l : Lists) (c : Int) (h : 0 ≤ c ∧ c ≤ 2) (hok : l.ok) (h0 : 0 < (l.at_ c).length) : Spec X 35 [] [l.tv, .int c] (Ret [] (.tup [(l.set_ c ((l.at_ c).take ((l.at_ c).length - 1))).tv, .int (at0 (l.at_ c) ((l.at_ c).length - 1)), .int 0])) := by
  refine spec_go X_ok Try.f35 (by kernel_rfl) (by kernel_rfl) (by kernel_rfl) fun _ _ => ⟨rfl, ?_⟩
  have hc : c = 0 ∨ c = 1 ∨ c = 2 := by omega
  rcases hc with rfl | rfl | rfl
  · have hm : l.l0.length ≤ 68719476736 := hok.1
    have h0 : 0 < l.l0.length := h0
    have hw : IntKind.i64.wrap ((l.l0.length : Int) - 1) = ((l.l0.length - 1 : Nat) : Int) := wrapM (by unfold maxN; omega) h0
    have e1 : (IntKind.i64.wrap ((l.l0.length : Int) - 1)).toNat = l.l0.length - 1 := by rw [hw]; omega
    show ABr _ _ _
    refine ⟨fun hb => absurd hb (by decide), fun _ => ?_⟩
    show AOb ((0 : Int) ≤ 0 ∧ (0 : Int) < 3) _
    refine ⟨by decide, ?_⟩
    show ABr (decide ((l.l0.length : Int) = 0)) _ _
    refine ⟨fun hb => absurd hb (by rw [decide_eq_true_iff]; omega), fun _ => ?_⟩
    show ACall _ _ _ _ _ _
    refine .mk _ (rOwn_own l hok) ?_
    rintro H r ⟨rfl, rfl⟩ _ _
    refine ⟨.inl rfl, ?_⟩
    show AOb ((0 : Int) ≤ 0 ∧ (0 : Int) < 3) _
    refine ⟨by decide, ?_⟩
    show AOb ((0 : Int) ≤ IntKind.i64.wrap ((l.l0.length : Int) - 1) ∧ IntKind.i64.wrap ((l.l0.length : Int) - 1) ≤ (l.l0.length : Int)) _
    refine ⟨by rw [hw]; omega, ?_⟩
    show AOb ((0 : Int) ≤ 0 ∧ (0 : Int) < 3) _
    refine ⟨by decide, ?_⟩
    show AOb ((0 : Int) ≤ 0 ∧ (0 : Int) < 3) _
    refine ⟨by decide, ?_⟩
    show AOb ((0 : Int) ≤ IntKind.i64.wrap ((l.l0.length : Int) - 1) ∧ IntKind.i64.wrap ((l.l0.length : Int) - 1) < (l.l0.length : Int)) _
    refine ⟨by rw [hw]; omega, ?_⟩
    show ARet _ _ _
    refine ⟨[], [], [(l.set_ 0 ((l.at_ 0).take ((l.at_ 0).length - 1))).tv, .int (at0 (l.at_ 0) ((l.at_ 0).length - 1)), .int 0], .cons _ _ _ _ (.agg _ _ (.cons _ _ _ _ (.frzv (k := .int) (l := l.l0) rfl rfl ?_ ?_) (.cons _ _ _ _ (.frz _ _ rfl) (.cons _ _ _ _ (.frz _ _ rfl) .nil)))) (.cons _ _ _ _ (.int_eq ?_) (.cons _ _ _ _ .same .nil)), .nil, rfl, rfl, rfl⟩
    · show 0 + (IntKind.i64.wrap ((l.l0.length : Int) - 1) - 0).toNat ≤ l.l0.length
      rw [hw]; omega
    · show (l.l0.drop 0).take (IntKind.i64.wrap ((l.l0.length : Int) - 1) - 0).toNat = l.l0.take (l.l0.length - 1)
      rw [Int.sub_zero, e1, List.drop_zero]
    · show at0 l.l0 (IntKind.i64.wrap ((l.l0.length : Int) - 1)).toNat = at0 l.l0 (l.l0.length - 1)
      rw [e1]
  · have hm : l.l1.length ≤ 68719476736 := hok.2.1
    have h0 : 0 < l.l1.length := h0
    have hw : IntKind.i64.wrap ((l.l1.length : Int) - 1) = ((l.l1.length - 1 : Nat) : Int) := wrapM (by unfold maxN; omega) h0
    have e1 : (IntKind.i64.wrap ((l.l1.length : Int) - 1)).toNat = l.l1.length - 1 := by rw [hw]; omega
    show ABr _ _ _
    refine ⟨fun hb => absurd hb (by decide), fun _ => ?_⟩
    show AOb ((0 : Int) ≤ 1 ∧ (1 : Int) < 3) _
    refine ⟨by decide, ?_⟩
    show ABr (decide ((l.l1.length : Int) = 0)) _ _
    refine ⟨fun hb => absurd hb (by rw [decide_eq_true_iff]; omega), fun _ => ?_⟩
    show ACall _ _ _ _ _ _
    refine .mk _ (rOwn_own l hok) ?_
    rintro H r ⟨rfl, rfl⟩ _ _
    refine ⟨.inl rfl, ?_⟩
    show AOb ((0 : Int) ≤ 1 ∧ (1 : Int) < 3) _
    refine ⟨by decide, ?_⟩
    show AOb ((0 : Int) ≤ IntKind.i64.wrap ((l.l1.length : Int) - 1) ∧ IntKind.i64.wrap ((l.l1.length : Int) - 1) ≤ (l.l1.length : Int)) _
    refine ⟨by rw [hw]; omega, ?_⟩
    show AOb ((0 : Int) ≤ 1 ∧ (1 : Int) < 3) _
    refine ⟨by decide, ?_⟩
    show AOb ((0 : Int) ≤ 1 ∧ (1 : Int) < 3) _
    refine ⟨by decide, ?_⟩
    show AOb ((0 : Int) ≤ IntKind.i64.wrap ((l.l1.length : Int) - 1) ∧ IntKind.i64.wrap ((l.l1.length : Int) - 1) < (l.l1.length : Int)) _
    refine ⟨by rw [hw]; omega, ?_⟩
    show ARet _ _ _
    refine ⟨[], [], [(l.set_ 1 ((l.at_ 1).take ((l.at_ 1).length - 1))).tv, .int (at0 (l.at_ 1) ((l.at_ 1).length - 1)), .int 0], .cons _ _ _ _ (.agg _ _ (.cons _ _ _ _ (.frz _ _ rfl) (.cons _ _ _ _ (.frzv (k := .int) (l := l.l1) rfl rfl ?_ ?_) (.cons _ _ _ _ (.frz _ _ rfl) .nil)))) (.cons _ _ _ _ (.int_eq ?_) (.cons _ _ _ _ .same .nil)), .nil, rfl, rfl, rfl⟩
    · show 0 + (IntKind.i64.wrap ((l.l1.length : Int) - 1) - 0).toNat ≤ l.l1.length
      rw [hw]; omega
    · show (l.l1.drop 0).take (IntKind.i64.wrap ((l.l1.length : Int) - 1) - 0).toNat = l.l1.take (l.l1.length - 1)
      rw [Int.sub_zero, e1, List.drop_zero]
    · show at0 l.l1 (IntKind.i64.wrap ((l.l1.length : Int) - 1)).toNat = at0 l.l1 (l.l1.length - 1)
      rw [e1]
  · have hm : l.l2.length ≤ 68719476736 := hok.2.2
    have h0 : 0 < l.l2.length := h0
    have hw : IntKind.i64.wrap ((l.l2.length : Int) - 1) = ((l.l2.length - 1 : Nat) : Int) := wrapM (by unfold maxN; omega) h0
    have e1 : (IntKind.i64.wrap ((l.l2.length : Int) - 1)).toNat = l.l2.length - 1 := by rw [hw]; omega
    show ABr _ _ _
    refine ⟨fun hb => absurd hb (by decide), fun _ => ?_⟩
    show AOb ((0 : Int) ≤ 2 ∧ (2 : Int) < 3) _
    refine ⟨by decide, ?_⟩
    show ABr (decide ((l.l2.length : Int) = 0)) _ _
    refine ⟨fun hb => absurd hb (by rw [decide_eq_true_iff]; omega), fun _ => ?_⟩
    show ACall _ _ _ _ _ _
    refine .mk _ (rOwn_own l hok) ?_
    rintro H r ⟨rfl, rfl⟩ _ _
    refine ⟨.inl rfl, ?_⟩
    show AOb ((0 : Int) ≤ 2 ∧ (2 : Int) < 3) _
    refine ⟨by decide, ?_⟩
    show AOb ((0 : Int) ≤ IntKind.i64.wrap ((l.l2.length : Int) - 1) ∧ IntKind.i64.wrap ((l.l2.length : Int) - 1) ≤ (l.l2.length : Int)) _
    refine ⟨by rw [hw]; omega, ?_⟩
    show AOb ((0 : Int) ≤ 2 ∧ (2 : Int) < 3) _
    refine ⟨by decide, ?_⟩
    show AOb ((0 : Int) ≤ 2 ∧ (2 : Int) < 3) _
    refine ⟨by decide, ?_⟩
    show AOb ((0 : Int) ≤ IntKind.i64.wrap ((l.l2.length : Int) - 1) ∧ IntKind.i64.wrap ((l.l2.length : Int) - 1) < (l.l2.length : Int)) _
    refine ⟨by rw [hw]; omega, ?_⟩
    show ARet _ _ _
    refine ⟨[], [], [(l.set_ 2 ((l.at_ 2).take ((l.at_ 2).length - 1))).tv, .int (at0 (l.at_ 2) ((l.at_ 2).length - 1)), .int 0], .cons _ _ _ _ (.agg _ _ (.cons _ _ _ _ (.frz _ _ rfl) (.cons _ _ _ _ (.frz _ _ rfl) (.cons _ _ _ _ (.frzv (k := .int) (l := l.l2) rfl rfl ?_ ?_) .nil)))) (.cons _ _ _ _ (.int_eq ?_) (.cons _ _ _ _ .same .nil)), .nil, rfl, rfl, rfl⟩
    · show 0 + (IntKind.i64.wrap ((l.l2.length : Int) - 1) - 0).toNat ≤ l.l2.length
      rw [hw]; omega
    · show (l.l2.drop 0).take (IntKind.i64.wrap ((l.l2.length : Int) - 1) - 0).toNat = l.l2.take (l.l2.length - 1)
      rw [Int.sub_zero, e1, List.drop_zero]
    · show at0 l.l2 (IntKind.i64.wrap ((l.l2.length : Int) - 1)).toNat = at0 l.l2 (l.l2.length - 1)
      rw [e1]

theorem LeC.sl_eq {ρ : List (Nat × Nat)} {h h' : Heap} {k : EK} {x y : List k.T} (e : x = y) : LeC ρ h h' (.d (.sl k x)) (.d (.sl k y)) := by subst e; exact .d _

theorem rMove_bad (l m : Lists) (c n : Int) (h : ¬ (0 ≤ c ∧ c ≤ 2 ∧ 0 ≤ n)) : Spec X 36 [] [l.tv, m.tv, .int c, .int n] (Ret [] (.tup [Lists.zero.tv, Lists.zero.tv, .int 1])) := by
  refine spec_go X_ok Try.f36 (by kernel_rfl) (by kernel_rfl) (by kernel_rfl) fun _ _ => ⟨rfl, ?_⟩
  show ABr (cond (cond (decide (c < 0)) true (decide (c > 2))) true (decide (n < 0))) _ _
  refine ⟨fun _ => ?_, fun hb => absurd hb (by simp; omega)⟩
  show ARet _ _ _
  refine ⟨[], [], [Lists.zero.tv, Lists.zero.tv, .int 1], .cons _ _ _ _ (.agg _ _ ?_) (.cons _ _ _ _ (.agg _ _ ?_) (.cons _ _ _ _ .same .nil)), .nil, rfl, ⟨rfl, rfl⟩⟩
  all_goals repeat (first | exact .nil | refine .cons _ _ _ _ (.d _) ?_ | refine .cons _ _ _ _ (.nilsl _) ?_)

/-- What has been moved behind i rounds. -/
def mvd (a b : List Int) (i : Nat) : List Int := b ++ (a.drop (a.length - i)).reverse

theorem mvd0 (a b : List Int) : b = mvd a b 0 := by simp [mvd]

theorem mvd_step (a b : List Int) (i : Nat) (h : i < a.length) : mvd a b (i + 1) = mvd a b i ++ [at0 a (a.length - i - 1)] := by
  unfold mvd
  have e : a.drop (a.length - (i + 1)) = at0 a (a.length - i - 1) :: a.drop (a.length - i) := by
    have hj : a.length - i - 1 < a.length := by omega
    rw [show a.length - (i + 1) = a.length - i - 1 by omega, List.drop_eq_getElem_cons hj, at0_get hj, show a.length - i - 1 + 1 = a.length - i by omega]
  rw [e, List.reverse_cons, List.append_assoc]

theorem mvd_len (a b : List Int) (i : Nat) (h : i ≤ a.length) : (mvd a b i).length = b.length + i := by
  unfold mvd
  simp
  omega

theorem rMove_spec (l m : Lists) (c n : Int) (h : 0 ≤ c ∧ c ≤ 2) (h0 : 0 ≤ n) (h1 : n ≤ 9223372036854775807) (hok : l.ok) (hok' : m.ok) (hsum : (l.at_ c).length + (m.at_ c).length ≤ most) : Spec X 36 [] [l.tv, m.tv, .int c, .int n]
    (Ret [] (.tup [(l.set_ c ((l.at_ c).take (leftOf (l.at_ c).length n))).tv, (m.set_ c (m.at_ c ++ ((l.at_ c).drop (leftOf (l.at_ c).length n)).reverse)).tv, .int 0])) := by
  refine spec_go X_ok Try.f36 (by kernel_rfl) (by kernel_rfl) (by kernel_rfl) fun _ _ => ⟨rfl, ?_⟩
  have hc : c = 0 ∨ c = 1 ∨ c = 2 := by omega
  rcases hc with rfl | rfl | rfl
  · have hm : l.l0.length ≤ 68719476736 := hok.1
    have hs : l.l0.length + m.l0.length ≤ most := hsum
    have hs' : l.l0.length + m.l0.length ≤ 68719476736 := hs
    show ABr (cond (cond (decide ((0 : Int) < 0)) true (decide ((0 : Int) > 2))) true (decide (n < 0))) _ _
    refine ⟨fun hb => absurd hb (by simp; omega), fun _ => ?_⟩
    show ACall _ _ _ _ _ _
    refine .mk _ (rOwn_own l hok) ?_
    rintro H r ⟨rfl, rfl⟩ _ _
    refine ⟨.inl rfl, ?_⟩
    show ACall _ _ _ _ _ _
    refine .mk _ (rOwn_own m hok') ?_
    rintro H r ⟨rfl, rfl⟩ _ _
    refine ⟨.inl rfl, ?_⟩
    show ∃ n, _
    refine ⟨0, ALoop.inv (ι := {i : Nat // i ≤ l.l0.length ∧ (i : Int) ≤ n}) (fun i => ⟨[(2, .int 0), (3, .int (n - i.1)), (8, .c (.ptr 0 0 0)), (9, .c (.ptr 1 0 0)), (11, .c (.ptr 2 0 0)), (12, .c (.ptr 3 0 0))], [(0, .vars [.d .nilsl, .d .nilsl, .d .nilsl]), (1, .vars [.d .nilsl, .d .nilsl, .d .nilsl]), (2, .vars [.d (.sl .int (l.l0.take (l.l0.length - i.1))), .d (.sl .int l.l1), .d (.sl .int l.l2)]), (3, .vars [.own 4, .own 5, .own 6]), (4, .data .int (mvd l.l0 m.l0 i.1)), (5, .data .int m.l1), (6, .data .int m.l2)], 32⟩) (fun i => l.l0.length - i.1) ⟨0, Nat.zero_le _, h0⟩ ?_ ?_⟩
    · refine ⟨[(96, 0), (128, 1), (576, 2), (704, 3), (672, 4), (673, 5), (674, 6)], .cons _ _ _ .same (.cons _ _ _ (.int_eq (by simp)) (.cons _ _ _ (.c _ _ (.ptr _ _ _ _ rfl)) (.cons _ _ _ (.c _ _ (.ptr _ _ _ _ rfl)) (.cons _ _ _ (.c _ _ (.ptr _ _ _ _ rfl)) (.cons _ _ _ (.c _ _ (.ptr _ _ _ _ rfl)) .nil))))), .old 0 96 _ _ _ rfl rfl (.vars _ _ (LeL_refl rfl)) (.old 1 128 _ _ _ rfl rfl (.vars _ _ (LeL_refl rfl)) (.old 2 576 _ _ _ rfl rfl (.vars _ _ (.cons _ _ _ _ (.frz_eq rfl ?_) (.cons _ _ _ _ (.frz _ _ rfl) (.cons _ _ _ _ (.frz _ _ rfl) .nil)))) (.old 3 704 _ _ _ rfl rfl (.vars _ _ (.cons _ _ _ _ (.own _ _ rfl) (.cons _ _ _ _ (.own _ _ rfl) (.cons _ _ _ _ (.own _ _ rfl) .nil)))) (.old 4 672 _ _ _ rfl rfl (.data_eq (mvd0 l.l0 m.l0)) (.old 5 673 _ _ _ rfl rfl (.data_eq rfl) (.old 6 674 _ _ _ rfl rfl (.data_eq rfl) .nil)))))), rfl⟩
      show l.l0 = l.l0.take (l.l0.length - 0)
      rw [Nat.sub_zero, List.take_length]
    · rintro ⟨i, hi, hin⟩
      have htl : (l.l0.take (l.l0.length - i)).length = l.l0.length - i := by simp
      show AOb (_ → (0 : Int) ≤ 0 ∧ (0 : Int) < 3) _
      refine ⟨fun _ => by decide, ?_⟩
      show ABr (cond (decide (n - (i : Int) > 0)) (decide (((l.l0.take (l.l0.length - i)).length : Int) > 0)) false) _ _
      refine ⟨fun h2 => ?_, fun h2 => ?_⟩
      · have hlt : (i : Int) < n ∧ i < l.l0.length := by
          rw [htl] at h2
          simp at h2
          omega
        have hil : i < l.l0.length := hlt.2
        have hpop : 0 < (l.l0.take (l.l0.length - i)).length := by rw [htl]; omega
        show ACall _ _ _ _ _ _
        refine call_ret (rPop_spec { l with l0 := l.l0.take (l.l0.length - i) } 0 (by decide) ?_ hpop) rfl ?_
        · obtain ⟨q0, q1, q2⟩ := hok
          refine ⟨?_, ?_, ?_⟩ <;> first | assumption | (show (l.l0.take _).length ≤ most; rw [htl]; unfold most; omega)
        show AOb ((0 : Int) ≤ 0 ∧ (0 : Int) < 3) _
        refine ⟨by decide, ?_⟩
        show AOb ((mvd l.l0 m.l0 i).length + 1 ≤ most) _
        refine ⟨by rw [mvd_len _ _ _ hi]; unfold most; omega, ?_⟩
        show AOb ((0 : Int) ≤ 0 ∧ (0 : Int) < 3) _
        refine ⟨by decide, ?_⟩
        show ARound _ _ _ _
        refine ⟨⟨i + 1, hil, by omega⟩, Nat.sub_lt_sub_left hil (Nat.lt_succ_self i), [(_, 4), (0, 0), (1, 1), (2, 2), (3, 3), (5, 5), (6, 6)], .cons _ _ _ .same (.cons _ _ _ (.int_eq ?_) (.cons _ _ _ (.c _ _ (.ptr _ _ _ _ rfl)) (.cons _ _ _ (.c _ _ (.ptr _ _ _ _ rfl)) (.cons _ _ _ (.c _ _ (.ptr _ _ _ _ rfl)) (.cons _ _ _ (.c _ _ (.ptr _ _ _ _ rfl)) .nil))))), .old 0 0 _ _ _ rfl rfl (.vars _ _ (LeL_refl rfl)) (.old 1 1 _ _ _ rfl rfl (.vars _ _ (LeL_refl rfl)) (.old 2 2 _ _ _ rfl rfl (.vars _ _ (.cons _ _ _ _ (.sl_eq ?_) (.cons _ _ _ _ (.d _) (.cons _ _ _ _ (.d _) .nil)))) (.old 3 3 _ _ _ rfl rfl (.vars _ _ (.cons _ _ _ _ (.own1 _ _) (.cons _ _ _ _ (.own _ _ rfl) (.cons _ _ _ _ (.own _ _ rfl) .nil)))) (.old 4 _ _ _ _ rfl rfl (.data_eq ?_) (.old 5 5 _ _ _ rfl rfl (.data_eq rfl) (.old 6 6 _ _ _ rfl rfl (.data_eq rfl) .nil)))))), rfl⟩
        · show IntKind.i64.wrap (n - (i : Int) - 1) = n - ((i + 1 : Nat) : Int)
          rw [wrap64 (by omega) (by omega)]; omega
        · show (l.l0.take (l.l0.length - i)).take ((l.l0.take (l.l0.length - i)).length - 1) = l.l0.take (l.l0.length - (i + 1))
          rw [htl, List.take_take]
          congr 1
          omega
        · show mvd l.l0 m.l0 i ++ [at0 (l.l0.take (l.l0.length - i)) ((l.l0.take (l.l0.length - i)).length - 1)] = mvd l.l0 m.l0 (i + 1)
          rw [mvd_step _ _ _ hil, htl, at0_take _ _ _ (by omega)]
      · have hstop : l.l0.length - i = leftOf l.l0.length n := by
          rw [htl] at h2
          simp at h2
          unfold leftOf
          omega
        show ARet _ _ _
        refine ⟨[], [], [(l.set_ 0 ((l.at_ 0).take (leftOf (l.at_ 0).length n))).tv, (m.set_ 0 (m.at_ 0 ++ ((l.at_ 0).drop (leftOf (l.at_ 0).length n)).reverse)).tv, .int 0], .cons _ _ _ _ (.agg _ _ (.cons _ _ _ _ (.sl_eq ?_) (.cons _ _ _ _ (.d _) (.cons _ _ _ _ (.d _) .nil)))) (.cons _ _ _ _ (.agg _ _ (.cons _ _ _ _ (.frz_eq rfl ?_) (.cons _ _ _ _ (.frz _ _ rfl) (.cons _ _ _ _ (.frz _ _ rfl) .nil)))) (.cons _ _ _ _ .same .nil)), .nil, rfl, rfl, rfl⟩
        · show l.l0.take (l.l0.length - i) = l.l0.take (leftOf l.l0.length n)
          rw [hstop]
        · show mvd l.l0 m.l0 i = m.l0 ++ (l.l0.drop (leftOf l.l0.length n)).reverse
          unfold mvd
          rw [hstop]
  · have hm : l.l1.length ≤ 68719476736 := hok.2.1
    have hs : l.l1.length + m.l1.length ≤ most := hsum
    have hs' : l.l1.length + m.l1.length ≤ 68719476736 := hs
    show ABr (cond (cond (decide ((1 : Int) < 0)) true (decide ((1 : Int) > 2))) true (decide (n < 0))) _ _
    refine ⟨fun hb => absurd hb (by simp; omega), fun _ => ?_⟩
    show ACall _ _ _ _ _ _
    refine .mk _ (rOwn_own l hok) ?_
    rintro H r ⟨rfl, rfl⟩ _ _
    refine ⟨.inl rfl, ?_⟩
    show ACall _ _ _ _ _ _
    refine .mk _ (rOwn_own m hok') ?_
    rintro H r ⟨rfl, rfl⟩ _ _
    refine ⟨.inl rfl, ?_⟩
    show ∃ n, _
    refine ⟨0, ALoop.inv (ι := {i : Nat // i ≤ l.l1.length ∧ (i : Int) ≤ n}) (fun i => ⟨[(2, .int 1), (3, .int (n - i.1)), (8, .c (.ptr 0 0 0)), (9, .c (.ptr 1 0 0)), (11, .c (.ptr 2 0 0)), (12, .c (.ptr 3 0 0))], [(0, .vars [.d .nilsl, .d .nilsl, .d .nilsl]), (1, .vars [.d .nilsl, .d .nilsl, .d .nilsl]), (2, .vars [.d (.sl .int l.l0), .d (.sl .int (l.l1.take (l.l1.length - i.1))), .d (.sl .int l.l2)]), (3, .vars [.own 4, .own 5, .own 6]), (4, .data .int m.l0), (5, .data .int (mvd l.l1 m.l1 i.1)), (6, .data .int m.l2)], 32⟩) (fun i => l.l1.length - i.1) ⟨0, Nat.zero_le _, h0⟩ ?_ ?_⟩
    · refine ⟨[(96, 0), (128, 1), (576, 2), (704, 3), (672, 4), (673, 5), (674, 6)], .cons _ _ _ .same (.cons _ _ _ (.int_eq (by simp)) (.cons _ _ _ (.c _ _ (.ptr _ _ _ _ rfl)) (.cons _ _ _ (.c _ _ (.ptr _ _ _ _ rfl)) (.cons _ _ _ (.c _ _ (.ptr _ _ _ _ rfl)) (.cons _ _ _ (.c _ _ (.ptr _ _ _ _ rfl)) .nil))))), .old 0 96 _ _ _ rfl rfl (.vars _ _ (LeL_refl rfl)) (.old 1 128 _ _ _ rfl rfl (.vars _ _ (LeL_refl rfl)) (.old 2 576 _ _ _ rfl rfl (.vars _ _ (.cons _ _ _ _ (.frz _ _ rfl) (.cons _ _ _ _ (.frz_eq rfl ?_) (.cons _ _ _ _ (.frz _ _ rfl) .nil)))) (.old 3 704 _ _ _ rfl rfl (.vars _ _ (.cons _ _ _ _ (.own _ _ rfl) (.cons _ _ _ _ (.own _ _ rfl) (.cons _ _ _ _ (.own _ _ rfl) .nil)))) (.old 4 672 _ _ _ rfl rfl (.data_eq rfl) (.old 5 673 _ _ _ rfl rfl (.data_eq (mvd0 l.l1 m.l1)) (.old 6 674 _ _ _ rfl rfl (.data_eq rfl) .nil)))))), rfl⟩
      show l.l1 = l.l1.take (l.l1.length - 0)
      rw [Nat.sub_zero, List.take_length]
    · rintro ⟨i, hi, hin⟩
      have htl : (l.l1.take (l.l1.length - i)).length = l.l1.length - i := by simp
      show AOb (_ → (0 : Int) ≤ 1 ∧ (1 : Int) < 3) _
      refine ⟨fun _ => by decide, ?_⟩
      show ABr (cond (decide (n - (i : Int) > 0)) (decide (((l.l1.take (l.l1.length - i)).length : Int) > 0)) false) _ _
      refine ⟨fun h2 => ?_, fun h2 => ?_⟩
      · have hlt : (i : Int) < n ∧ i < l.l1.length := by
          rw [htl] at h2
          simp at h2
          omega
        have hil : i < l.l1.length := hlt.2
        have hpop : 0 < (l.l1.take (l.l1.length - i)).length := by rw [htl]; omega
        show ACall _ _ _ _ _ _
        refine call_ret (rPop_spec { l with l1 := l.l1.take (l.l1.length - i) } 1 (by decide) ?_ hpop) rfl ?_
        · obtain ⟨q0, q1, q2⟩ := hok
          refine ⟨?_, ?_, ?_⟩ <;> first | assumption | (show (l.l1.take _).length ≤ most; rw [htl]; unfold most; omega)
        show AOb ((0 : Int) ≤ 1 ∧ (1 : Int) < 3) _
        refine ⟨by decide, ?_⟩
        show AOb ((mvd l.l1 m.l1 i).length + 1 ≤ most) _
        refine ⟨by rw [mvd_len _ _ _ hi]; unfold most; omega, ?_⟩
        show AOb ((0 : Int) ≤ 1 ∧ (1 : Int) < 3) _
        refine ⟨by decide, ?_⟩
        show ARound _ _ _ _
        refine ⟨⟨i + 1, hil, by omega⟩, Nat.sub_lt_sub_left hil (Nat.lt_succ_self i), [(_, 5), (0, 0), (1, 1), (2, 2), (3, 3), (4, 4), (6, 6)], .cons _ _ _ .same (.cons _ _ _ (.int_eq ?_) (.cons _ _ _ (.c _ _ (.ptr _ _ _ _ rfl)) (.cons _ _ _ (.c _ _ (.ptr _ _ _ _ rfl)) (.cons _ _ _ (.c _ _ (.ptr _ _ _ _ rfl)) (.cons _ _ _ (.c _ _ (.ptr _ _ _ _ rfl)) .nil))))), .old 0 0 _ _ _ rfl rfl (.vars _ _ (LeL_refl rfl)) (.old 1 1 _ _ _ rfl rfl (.vars _ _ (LeL_refl rfl)) (.old 2 2 _ _ _ rfl rfl (.vars _ _ (.cons _ _ _ _ (.d _) (.cons _ _ _ _ (.sl_eq ?_) (.cons _ _ _ _ (.d _) .nil)))) (.old 3 3 _ _ _ rfl rfl (.vars _ _ (.cons _ _ _ _ (.own _ _ rfl) (.cons _ _ _ _ (.own1 _ _) (.cons _ _ _ _ (.own _ _ rfl) .nil)))) (.old 4 4 _ _ _ rfl rfl (.data_eq rfl) (.old 5 _ _ _ _ rfl rfl (.data_eq ?_) (.old 6 6 _ _ _ rfl rfl (.data_eq rfl) .nil)))))), rfl⟩
        · show IntKind.i64.wrap (n - (i : Int) - 1) = n - ((i + 1 : Nat) : Int)
          rw [wrap64 (by omega) (by omega)]; omega
        · show (l.l1.take (l.l1.length - i)).take ((l.l1.take (l.l1.length - i)).length - 1) = l.l1.take (l.l1.length - (i + 1))
          rw [htl, List.take_take]
          congr 1
          omega
        · show mvd l.l1 m.l1 i ++ [at0 (l.l1.take (l.l1.length - i)) ((l.l1.take (l.l1.length - i)).length - 1)] = mvd l.l1 m.l1 (i + 1)
          rw [mvd_step _ _ _ hil, htl, at0_take _ _ _ (by omega)]
      · have hstop : l.l1.length - i = leftOf l.l1.length n := by
          rw [htl] at h2
          simp at h2
          unfold leftOf
          omega
        show ARet _ _ _
        refine ⟨[], [], [(l.set_ 1 ((l.at_ 1).take (leftOf (l.at_ 1).length n))).tv, (m.set_ 1 (m.at_ 1 ++ ((l.at_ 1).drop (leftOf (l.at_ 1).length n)).reverse)).tv, .int 0], .cons _ _ _ _ (.agg _ _ (.cons _ _ _ _ (.d _) (.cons _ _ _ _ (.sl_eq ?_) (.cons _ _ _ _ (.d _) .nil)))) (.cons _ _ _ _ (.agg _ _ (.cons _ _ _ _ (.frz _ _ rfl) (.cons _ _ _ _ (.frz_eq rfl ?_) (.cons _ _ _ _ (.frz _ _ rfl) .nil)))) (.cons _ _ _ _ .same .nil)), .nil, rfl, rfl, rfl⟩
        · show l.l1.take (l.l1.length - i) = l.l1.take (leftOf l.l1.length n)
          rw [hstop]
        · show mvd l.l1 m.l1 i = m.l1 ++ (l.l1.drop (leftOf l.l1.length n)).reverse
          unfold mvd
          rw [hstop]
  · have hm : l.l2.length ≤ 68719476736 := hok.2.2
    have hs : l.l2.length + m.l2.length ≤ most := hsum
    have hs' : l.l2.length + m.l2.length ≤ 68719476736 := hs
    show ABr (cond (cond (decide ((2 : Int) < 0)) true (decide ((2 : Int) > 2))) true (decide (n < 0))) _ _
    refine ⟨fun hb => absurd hb (by simp; omega), fun _ => ?_⟩
    show ACall _ _ _ _ _ _
    refine .mk _ (rOwn_own l hok) ?_
    rintro H r ⟨rfl, rfl⟩ _ _
    refine ⟨.inl rfl, ?_⟩
    show ACall _ _ _ _ _ _
    refine .mk _ (rOwn_own m hok') ?_
    rintro H r ⟨rfl, rfl⟩ _ _
    refine ⟨.inl rfl, ?_⟩
    show ∃ n, _
    refine ⟨0, ALoop.inv (ι := {i : Nat // i ≤ l.l2.length ∧ (i : Int) ≤ n}) (fun i => ⟨[(2, .int 2), (3, .int (n - i.1)), (8, .c (.ptr 0 0 0)), (9, .c (.ptr 1 0 0)), (11, .c (.ptr 2 0 0)), (12, .c (.ptr 3 0 0))], [(0, .vars [.d .nilsl, .d .nilsl, .d .nilsl]), (1, .vars [.d .nilsl, .d .nilsl, .d .nilsl]), (2, .vars [.d (.sl .int l.l0), .d (.sl .int l.l1), .d (.sl .int (l.l2.take (l.l2.length - i.1)))]), (3, .vars [.own 4, .own 5, .own 6]), (4, .data .int m.l0), (5, .data .int m.l1), (6, .data .int (mvd l.l2 m.l2 i.1))], 32⟩) (fun i => l.l2.length - i.1) ⟨0, Nat.zero_le _, h0⟩ ?_ ?_⟩
    · refine ⟨[(96, 0), (128, 1), (576, 2), (704, 3), (672, 4), (673, 5), (674, 6)], .cons _ _ _ .same (.cons _ _ _ (.int_eq (by simp)) (.cons _ _ _ (.c _ _ (.ptr _ _ _ _ rfl)) (.cons _ _ _ (.c _ _ (.ptr _ _ _ _ rfl)) (.cons _ _ _ (.c _ _ (.ptr _ _ _ _ rfl)) (.cons _ _ _ (.c _ _ (.ptr _ _ _ _ rfl)) .nil))))), .old 0 96 _ _ _ rfl rfl (.vars _ _ (LeL_refl rfl)) (.old 1 128 _ _ _ rfl rfl (.vars _ _ (LeL_refl rfl)) (.old 2 576 _ _ _ rfl rfl (.vars _ _ (.cons _ _ _ _ (.frz _ _ rfl) (.cons _ _ _ _ (.frz _ _ rfl) (.cons _ _ _ _ (.frz_eq rfl ?_) .nil)))) (.old 3 704 _ _ _ rfl rfl (.vars _ _ (.cons _ _ _ _ (.own _ _ rfl) (.cons _ _ _ _ (.own _ _ rfl) (.cons _ _ _ _ (.own _ _ rfl) .nil)))) (.old 4 672 _ _ _ rfl rfl (.data_eq rfl) (.old 5 673 _ _ _ rfl rfl (.data_eq rfl) (.old 6 674 _ _ _ rfl rfl (.data_eq (mvd0 l.l2 m.l2)) .nil)))))), rfl⟩
      show l.l2 = l.l2.take (l.l2.length - 0)
      rw [Nat.sub_zero, List.take_length]
    · rintro ⟨i, hi, hin⟩
      have htl : (l.l2.take (l.l2.length - i)).length = l.l2.length - i := by simp
      show AOb (_ → (0 : Int) ≤ 2 ∧ (2 : Int) < 3) _
      refine ⟨fun _ => by decide, ?_⟩
      show ABr (cond (decide (n - (i : Int) > 0)) (decide (((l.l2.take (l.l2.length - i)).length : Int) > 0)) false) _ _
      refine ⟨fun h2 => ?_, fun h2 => ?_⟩
      · have hlt : (i : Int) < n ∧ i < l.l2.length := by
          rw [htl] at h2
          simp at h2
          omega
        have hil : i < l.l2.length := hlt.2
        have hpop : 0 < (l.l2.take (l.l2.length - i)).length := by rw [htl]; omega
        show ACall _ _ _ _ _ _
        refine call_ret (rPop_spec { l with l2 := l.l2.take (l.l2.length - i) } 2 (by decide) ?_ hpop) rfl ?_
        · obtain ⟨q0, q1, q2⟩ := hok
          refine ⟨?_, ?_, ?_⟩ <;> first | assumption | (show (l.l2.take _).length ≤ most; rw [htl]; unfold most; omega)
        show AOb ((0 : Int) ≤ 2 ∧ (2 : Int) < 3) _
        refine ⟨by decide, ?_⟩
        show AOb ((mvd l.l2 m.l2 i).length + 1 ≤ most) _
        refine ⟨by rw [mvd_len _ _ _ hi]; unfold most; omega, ?_⟩
        show AOb ((0 : Int) ≤ 2 ∧ (2 : Int) < 3) _
        refine ⟨by decide, ?_⟩
        show ARound _ _ _ _
        refine ⟨⟨i + 1, hil, by omega⟩, Nat.sub_lt_sub_left hil (Nat.lt_succ_self i), [(_, 6), (0, 0), (1, 1), (2, 2), (3, 3), (4, 4), (5, 5)], .cons _ _ _ .same (.cons _ _ _ (.int_eq ?_) (.cons _ _ _ (.c _ _ (.ptr _ _ _ _ rfl)) (.cons _ _ _ (.c _ _ (.ptr _ _ _ _ rfl)) (.cons _ _ _ (.c _ _ (.ptr _ _ _ _ rfl)) (.cons _ _ _ (.c _ _ (.ptr _ _ _ _ rfl)) .nil))))), .old 0 0 _ _ _ rfl rfl (.vars _ _ (LeL_refl rfl)) (.old 1 1 _ _ _ rfl rfl (.vars _ _ (LeL_refl rfl)) (.old 2 2 _ _ _ rfl rfl (.vars _ _ (.cons _ _ _ _ (.d _) (.cons _ _ _ _ (.d _) (.cons _ _ _ _ (.sl_eq ?_) .nil)))) (.old 3 3 _ _ _ rfl rfl (.vars _ _ (.cons _ _ _ _ (.own _ _ rfl) (.cons _ _ _ _ (.own _ _ rfl) (.cons _ _ _ _ (.own1 _ _) .nil)))) (.old 4 4 _ _ _ rfl rfl (.data_eq rfl) (.old 5 5 _ _ _ rfl rfl (.data_eq rfl) (.old 6 _ _ _ _ rfl rfl (.data_eq ?_) .nil)))))), rfl⟩
        · show IntKind.i64.wrap (n - (i : Int) - 1) = n - ((i + 1 : Nat) : Int)
          rw [wrap64 (by omega) (by omega)]; omega
        · show (l.l2.take (l.l2.length - i)).take ((l.l2.take (l.l2.length - i)).length - 1) = l.l2.take (l.l2.length - (i + 1))
          rw [htl, List.take_take]
          congr 1
          omega
        · show mvd l.l2 m.l2 i ++ [at0 (l.l2.take (l.l2.length - i)) ((l.l2.take (l.l2.length - i)).length - 1)] = mvd l.l2 m.l2 (i + 1)
          rw [mvd_step _ _ _ hil, htl, at0_take _ _ _ (by omega)]
      · have hstop : l.l2.length - i = leftOf l.l2.length n := by
          rw [htl] at h2
          simp at h2
          unfold leftOf
          omega
        show ARet _ _ _
        refine ⟨[], [], [(l.set_ 2 ((l.at_ 2).take (leftOf (l.at_ 2).length n))).tv, (m.set_ 2 (m.at_ 2 ++ ((l.at_ 2).drop (leftOf (l.at_ 2).length n)).reverse)).tv, .int 0], .cons _ _ _ _ (.agg _ _ (.cons _ _ _ _ (.d _) (.cons _ _ _ _ (.d _) (.cons _ _ _ _ (.sl_eq ?_) .nil)))) (.cons _ _ _ _ (.agg _ _ (.cons _ _ _ _ (.frz _ _ rfl) (.cons _ _ _ _ (.frz _ _ rfl) (.cons _ _ _ _ (.frz_eq rfl ?_) .nil)))) (.cons _ _ _ _ .same .nil)), .nil, rfl, rfl, rfl⟩
        · show l.l2.take (l.l2.length - i) = l.l2.take (leftOf l.l2.length n)
          rw [hstop]
        · show mvd l.l2 m.l2 i = m.l2 ++ (l.l2.drop (leftOf l.l2.length n)).reverse
          unfold mvd
          rw [hstop]
end Go.Abs

namespace Go.Abs
open Go.Proofs Go.Proofs.Ytlknhkocpjjkdaa
set_option maxRecDepth 8000

theorem rPart_bad (l : Lists) (c low high : Int) (h : ¬ (0 ≤ c ∧ c ≤ 2)) : Spec X 38 [] [l.tv, .int c, .int low, .int high] (Ret [] (.tup [Lists.zero.tv, .c (.d (.sl .int [])), .int 1])) := by
  refine spec_go X_ok Try.f38 (by kernel_rfl) (by kernel_rfl) (by kernel_rfl) fun _ _ => ⟨rfl, ?_⟩
  show ABr (cond (decide (c < 0)) true (decide (c > 2))) _ _
  refine ⟨fun _ => ?_, fun hb => absurd hb (by simp; omega)⟩
  show ARet _ _ _
  refine ⟨[], [], [Lists.zero.tv, .c (.d (.sl .int [])), .int 1], .cons _ _ _ _ (.agg _ _ ?_) (.cons _ _ _ _ (.nilsl rfl) (.cons _ _ _ _ .same .nil)), .nil, rfl, ⟨rfl, rfl⟩⟩
  repeat (first | exact .nil | refine .cons _ _ _ _ (.d _) ?_ | refine .cons _ _ _ _ (.nilsl _) ?_)

theorem rPart_spec (l : Lists) (c low high : Int) (h : 0 ≤ c ∧ c ≤ 2) (hok : l.ok) : Spec X 38 [] [l.tv, .int c, .int low, .int high]
    (Ret [] (.tup [(l.set_ c (stayOf (l.at_ c) low high (l.at_ c).length)).tv, .c (.d (.sl .int (outOf (l.at_ c) low high (l.at_ c).length))), .int 0])) := by
  refine spec_go X_ok Try.f38 (by kernel_rfl) (by kernel_rfl) (by kernel_rfl) fun _ _ => ⟨rfl, ?_⟩
  have hc : c = 0 ∨ c = 1 ∨ c = 2 := by omega
  rcases hc with rfl | rfl | rfl
  · have hm : l.l0.length ≤ 68719476736 := hok.1
    show ABr _ _ _
    refine ⟨fun hb => absurd hb (by decide), fun _ => ?_⟩
    show ACall _ _ _ _ _ _
    refine .mk _ (rOwn_own l hok) ?_
    rintro H r ⟨rfl, rfl⟩ _ _
    refine ⟨.inl rfl, ?_⟩
    show AOb ((0 : Int) ≤ 0 ∧ (0 : Int) < 3) _
    refine ⟨by decide, ?_⟩
    show ∃ n, _
    refine ⟨0, ALoop.inv (ι := {i : Nat // i ≤ l.l0.length}) (fun i => ⟨[(1, .int 0), (2, .int low), (3, .int high), (4, .c (.ptr 0 0 0)), (8, .c (.ptr 1 0 0)), (11, .c (.ptr 2 0 0)), (12, .c (.own 3)), (13, .int i.1)], [(0, .vars ((EK.enc .lists l).map .d)), (1, .vars [.d .nilsl, .d .nilsl, .d .nilsl]), (2, .vars [.own 4, .own 5, .own 6]), (3, .data .int (outOf l.l0 low high i.1)), (4, .data .int (stayOf l.l0 low high i.1)), (5, .data .int l.l1), (6, .data .int l.l2)], 32⟩) (fun i => l.l0.length - i.1) ⟨0, Nat.zero_le _⟩ ?_ ?_⟩
    · exact ⟨[(32, 0), (64, 1), (416, 2), (385, 5), (386, 6)], .cons _ _ _ .same (.cons _ _ _ .same (.cons _ _ _ .same (.cons _ _ _ (.c _ _ (.ptr _ _ _ _ rfl)) (.cons _ _ _ (.c _ _ (.ptr _ _ _ _ rfl)) (.cons _ _ _ (.c _ _ (.ptr _ _ _ _ rfl)) (.cons _ _ _ (.c _ _ (.nilown 3 .int rfl rfl)) (.cons _ _ _ .same .nil))))))), .old 0 32 _ _ _ rfl rfl (.vars _ _ (LeL_refl rfl)) (.old 1 64 _ _ _ rfl rfl (.vars _ _ (LeL_refl rfl)) (.old 2 416 _ _ _ rfl rfl (.vars _ _ (.cons _ _ _ _ (.nilown 4 .int rfl rfl) (.cons _ _ _ _ (.own _ _ rfl) (.cons _ _ _ _ (.own _ _ rfl) .nil)))) (.new 3 .int _ rfl (.new 4 .int _ rfl (.old 5 385 _ _ _ rfl rfl (.data_eq rfl) (.old 6 386 _ _ _ rfl rfl (.data_eq rfl) .nil)))))), rfl⟩
    · rintro ⟨i, hi⟩
      have ho := outOf_len l.l0 low high i
      have hs := stayOf_len l.l0 low high i
      show AOb ((0 : Int) ≤ 0 ∧ (0 : Int) < 3) _
      refine ⟨by decide, ?_⟩
      show ABr (decide ((i : Int) < (l.l0.length : Int))) _ _
      refine ⟨fun h2 => ?_, fun h2 => ?_⟩
      · have hlt : i < l.l0.length := by simpa using h2
        have e1 := outOf_step l.l0 low high i hlt
        have e2 := stayOf_step l.l0 low high i hlt
        show AOb ((0 : Int) ≤ 0 ∧ (0 : Int) < 3) _
        refine ⟨by decide, ?_⟩
        show AOb ((0 : Int) ≤ (i : Int) ∧ (i : Int) < (l.l0.length : Int)) _
        refine ⟨by omega, ?_⟩
        show ABr (cond (decide (at0 l.l0 i < low)) true (decide (at0 l.l0 i ≥ high))) _ _
        refine ⟨fun h3 => ?_, fun h3 => ?_⟩
        · have hp : ¬ inP low high (at0 l.l0 i) = true := by unfold inP; simp at h3 ⊢; omega
          rw [if_neg hp] at e1 e2
          show AOb ((0 : Int) ≤ 0 ∧ (0 : Int) < 3) _
          refine ⟨by decide, ?_⟩
          show AOb ((stayOf l.l0 low high i).length + 1 ≤ most) _
          refine ⟨by unfold most; omega, ?_⟩
          show AOb ((0 : Int) ≤ 0 ∧ (0 : Int) < 3) _
          refine ⟨by decide, ?_⟩
          show ARound _ _ _ _
          refine ⟨⟨i + 1, hlt⟩, Nat.sub_lt_sub_left hlt (Nat.lt_succ_self i), [(_, 4), (0, 0), (1, 1), (2, 2), (3, 3), (5, 5), (6, 6)], .cons _ _ _ .same (.cons _ _ _ .same (.cons _ _ _ .same (.cons _ _ _ (.c _ _ (.ptr _ _ _ _ rfl)) (.cons _ _ _ (.c _ _ (.ptr _ _ _ _ rfl)) (.cons _ _ _ (.c _ _ (.ptr _ _ _ _ rfl)) (.cons _ _ _ (.c _ _ (.own _ _ rfl)) (.cons _ _ _ (.int_eq (wrapP (i := i) (by unfold maxN; omega))) .nil))))))), .old 0 0 _ _ _ rfl rfl (.vars _ _ (LeL_refl rfl)) (.old 1 1 _ _ _ rfl rfl (.vars _ _ (LeL_refl rfl)) (.old 2 2 _ _ _ rfl rfl (.vars _ _ (.cons _ _ _ _ (.own1 _ _) (.cons _ _ _ _ (.own _ _ rfl) (.cons _ _ _ _ (.own _ _ rfl) .nil)))) (.old 3 3 _ _ _ rfl rfl (.data_eq ?_) (.old 4 _ _ _ _ rfl rfl (.data_eq ?_) (.old 5 5 _ _ _ rfl rfl (.data_eq rfl) (.old 6 6 _ _ _ rfl rfl (.data_eq rfl) .nil)))))), rfl⟩
          · exact e1.symm
          · exact e2.symm
        · have hp : inP low high (at0 l.l0 i) = true := by unfold inP; simp at h3 ⊢; omega
          rw [if_pos hp] at e1 e2
          show AOb ((outOf l.l0 low high i).length + 1 ≤ most) _
          refine ⟨by unfold most; omega, ?_⟩
          show ARound _ _ _ _
          refine ⟨⟨i + 1, hlt⟩, Nat.sub_lt_sub_left hlt (Nat.lt_succ_self i), [(_, 3), (0, 0), (1, 1), (2, 2), (4, 4), (5, 5), (6, 6)], .cons _ _ _ .same (.cons _ _ _ .same (.cons _ _ _ .same (.cons _ _ _ (.c _ _ (.ptr _ _ _ _ rfl)) (.cons _ _ _ (.c _ _ (.ptr _ _ _ _ rfl)) (.cons _ _ _ (.c _ _ (.ptr _ _ _ _ rfl)) (.cons _ _ _ (.c _ _ (.own1 _ _)) (.cons _ _ _ (.int_eq (wrapP (i := i) (by unfold maxN; omega))) .nil))))))), .old 0 0 _ _ _ rfl rfl (.vars _ _ (LeL_refl rfl)) (.old 1 1 _ _ _ rfl rfl (.vars _ _ (LeL_refl rfl)) (.old 2 2 _ _ _ rfl rfl (.vars _ _ (.cons _ _ _ _ (.own _ _ rfl) (.cons _ _ _ _ (.own _ _ rfl) (.cons _ _ _ _ (.own _ _ rfl) .nil)))) (.old 3 _ _ _ _ rfl rfl (.data_eq ?_) (.old 4 4 _ _ _ rfl rfl (.data_eq ?_) (.old 5 5 _ _ _ rfl rfl (.data_eq rfl) (.old 6 6 _ _ _ rfl rfl (.data_eq rfl) .nil)))))), rfl⟩
          · exact e1.symm
          · exact e2.symm
      · have hge : i = l.l0.length := by simp at h2; omega
        show ARet _ _ _
        refine ⟨[], [], [(l.set_ 0 (stayOf (l.at_ 0) low high (l.at_ 0).length)).tv, .c (.d (.sl .int (outOf (l.at_ 0) low high (l.at_ 0).length))), .int 0], .cons _ _ _ _ (.agg _ _ (.cons _ _ _ _ (.frz_eq rfl ?_) (.cons _ _ _ _ (.frz _ _ rfl) (.cons _ _ _ _ (.frz _ _ rfl) .nil)))) (.cons _ _ _ _ (.frz rfl ?_) (.cons _ _ _ _ .same .nil)), .nil, rfl, rfl, rfl⟩
        · show stayOf l.l0 low high i = _
          rw [hge]; rfl
        · show outOf l.l0 low high i = _
          rw [hge]; rfl
  · have hm : l.l1.length ≤ 68719476736 := hok.2.1
    show ABr _ _ _
    refine ⟨fun hb => absurd hb (by decide), fun _ => ?_⟩
    show ACall _ _ _ _ _ _
    refine .mk _ (rOwn_own l hok) ?_
    rintro H r ⟨rfl, rfl⟩ _ _
    refine ⟨.inl rfl, ?_⟩
    show AOb ((0 : Int) ≤ 1 ∧ (1 : Int) < 3) _
    refine ⟨by decide, ?_⟩
    show ∃ n, _
    refine ⟨0, ALoop.inv (ι := {i : Nat // i ≤ l.l1.length}) (fun i => ⟨[(1, .int 1), (2, .int low), (3, .int high), (4, .c (.ptr 0 0 0)), (8, .c (.ptr 1 0 0)), (11, .c (.ptr 2 0 0)), (12, .c (.own 3)), (13, .int i.1)], [(0, .vars ((EK.enc .lists l).map .d)), (1, .vars [.d .nilsl, .d .nilsl, .d .nilsl]), (2, .vars [.own 4, .own 5, .own 6]), (3, .data .int (outOf l.l1 low high i.1)), (4, .data .int l.l0), (5, .data .int (stayOf l.l1 low high i.1)), (6, .data .int l.l2)], 32⟩) (fun i => l.l1.length - i.1) ⟨0, Nat.zero_le _⟩ ?_ ?_⟩
    · exact ⟨[(32, 0), (64, 1), (416, 2), (384, 4), (386, 6)], .cons _ _ _ .same (.cons _ _ _ .same (.cons _ _ _ .same (.cons _ _ _ (.c _ _ (.ptr _ _ _ _ rfl)) (.cons _ _ _ (.c _ _ (.ptr _ _ _ _ rfl)) (.cons _ _ _ (.c _ _ (.ptr _ _ _ _ rfl)) (.cons _ _ _ (.c _ _ (.nilown 3 .int rfl rfl)) (.cons _ _ _ .same .nil))))))), .old 0 32 _ _ _ rfl rfl (.vars _ _ (LeL_refl rfl)) (.old 1 64 _ _ _ rfl rfl (.vars _ _ (LeL_refl rfl)) (.old 2 416 _ _ _ rfl rfl (.vars _ _ (.cons _ _ _ _ (.own _ _ rfl) (.cons _ _ _ _ (.nilown 5 .int rfl rfl) (.cons _ _ _ _ (.own _ _ rfl) .nil)))) (.new 3 .int _ rfl (.old 4 384 _ _ _ rfl rfl (.data_eq rfl) (.new 5 .int _ rfl (.old 6 386 _ _ _ rfl rfl (.data_eq rfl) .nil)))))), rfl⟩
    · rintro ⟨i, hi⟩
      have ho := outOf_len l.l1 low high i
      have hs := stayOf_len l.l1 low high i
      show AOb ((0 : Int) ≤ 1 ∧ (1 : Int) < 3) _
      refine ⟨by decide, ?_⟩
      show ABr (decide ((i : Int) < (l.l1.length : Int))) _ _
      refine ⟨fun h2 => ?_, fun h2 => ?_⟩
      · have hlt : i < l.l1.length := by simpa using h2
        have e1 := outOf_step l.l1 low high i hlt
        have e2 := stayOf_step l.l1 low high i hlt
        show AOb ((0 : Int) ≤ 1 ∧ (1 : Int) < 3) _
        refine ⟨by decide, ?_⟩
        show AOb ((0 : Int) ≤ (i : Int) ∧ (i : Int) < (l.l1.length : Int)) _
        refine ⟨by omega, ?_⟩
        show ABr (cond (decide (at0 l.l1 i < low)) true (decide (at0 l.l1 i ≥ high))) _ _
        refine ⟨fun h3 => ?_, fun h3 => ?_⟩
        · have hp : ¬ inP low high (at0 l.l1 i) = true := by unfold inP; simp at h3 ⊢; omega
          rw [if_neg hp] at e1 e2
          show AOb ((0 : Int) ≤ 1 ∧ (1 : Int) < 3) _
          refine ⟨by decide, ?_⟩
          show AOb ((stayOf l.l1 low high i).length + 1 ≤ most) _
          refine ⟨by unfold most; omega, ?_⟩
          show AOb ((0 : Int) ≤ 1 ∧ (1 : Int) < 3) _
          refine ⟨by decide, ?_⟩
          show ARound _ _ _ _
          refine ⟨⟨i + 1, hlt⟩, Nat.sub_lt_sub_left hlt (Nat.lt_succ_self i), [(_, 5), (0, 0), (1, 1), (2, 2), (3, 3), (4, 4), (6, 6)], .cons _ _ _ .same (.cons _ _ _ .same (.cons _ _ _ .same (.cons _ _ _ (.c _ _ (.ptr _ _ _ _ rfl)) (.cons _ _ _ (.c _ _ (.ptr _ _ _ _ rfl)) (.cons _ _ _ (.c _ _ (.ptr _ _ _ _ rfl)) (.cons _ _ _ (.c _ _ (.own _ _ rfl)) (.cons _ _ _ (.int_eq (wrapP (i := i) (by unfold maxN; omega))) .nil))))))), .old 0 0 _ _ _ rfl rfl (.vars _ _ (LeL_refl rfl)) (.old 1 1 _ _ _ rfl rfl (.vars _ _ (LeL_refl rfl)) (.old 2 2 _ _ _ rfl rfl (.vars _ _ (.cons _ _ _ _ (.own _ _ rfl) (.cons _ _ _ _ (.own1 _ _) (.cons _ _ _ _ (.own _ _ rfl) .nil)))) (.old 3 3 _ _ _ rfl rfl (.data_eq ?_) (.old 4 4 _ _ _ rfl rfl (.data_eq rfl) (.old 5 _ _ _ _ rfl rfl (.data_eq ?_) (.old 6 6 _ _ _ rfl rfl (.data_eq rfl) .nil)))))), rfl⟩
          · exact e1.symm
          · exact e2.symm
        · have hp : inP low high (at0 l.l1 i) = true := by unfold inP; simp at h3 ⊢; omega
          rw [if_pos hp] at e1 e2
          show AOb ((outOf l.l1 low high i).length + 1 ≤ most) _
          refine ⟨by unfold most; omega, ?_⟩
          show ARound _ _ _ _
          refine ⟨⟨i + 1, hlt⟩, Nat.sub_lt_sub_left hlt (Nat.lt_succ_self i), [(_, 3), (0, 0), (1, 1), (2, 2), (4, 4), (5, 5), (6, 6)], .cons _ _ _ .same (.cons _ _ _ .same (.cons _ _ _ .same (.cons _ _ _ (.c _ _ (.ptr _ _ _ _ rfl)) (.cons _ _ _ (.c _ _ (.ptr _ _ _ _ rfl)) (.cons _ _ _ (.c _ _ (.ptr _ _ _ _ rfl)) (.cons _ _ _ (.c _ _ (.own1 _ _)) (.cons _ _ _ (.int_eq (wrapP (i := i) (by unfold maxN; omega))) .nil))))))), .old 0 0 _ _ _ rfl rfl (.vars _ _ (LeL_refl rfl)) (.old 1 1 _ _ _ rfl rfl (.vars _ _ (LeL_refl rfl)) (.old 2 2 _ _ _ rfl rfl (.vars _ _ (.cons _ _ _ _ (.own _ _ rfl) (.cons _ _ _ _ (.own _ _ rfl) (.cons _ _ _ _ (.own _ _ rfl) .nil)))) (.old 3 _ _ _ _ rfl rfl (.data_eq ?_) (.old 4 4 _ _ _ rfl rfl (.data_eq rfl) (.old 5 5 _ _ _ rfl rfl (.data_eq ?_) (.old 6 6 _ _ _ rfl rfl (.data_eq rfl) .nil)))))), rfl⟩
          · exact e1.symm
          · exact e2.symm
      · have hge : i = l.l1.length := by simp at h2; omega
        show ARet _ _ _
        refine ⟨[], [], [(l.set_ 1 (stayOf (l.at_ 1) low high (l.at_ 1).length)).tv, .c (.d (.sl .int (outOf (l.at_ 1) low high (l.at_ 1).length))), .int 0], .cons _ _ _ _ (.agg _ _ (.cons _ _ _ _ (.frz _ _ rfl) (.cons _ _ _ _ (.frz_eq rfl ?_) (.cons _ _ _ _ (.frz _ _ rfl) .nil)))) (.cons _ _ _ _ (.frz rfl ?_) (.cons _ _ _ _ .same .nil)), .nil, rfl, rfl, rfl⟩
        · show stayOf l.l1 low high i = _
          rw [hge]; rfl
        · show outOf l.l1 low high i = _
          rw [hge]; rfl
  · have hm : l.l2.length ≤ 68719476736 := hok.2.2
    show ABr _ _ _
    refine ⟨fun hb => absurd hb (by decide), fun _ => ?_⟩
    show ACall _ _ _ _ _ _
    refine .mk _ (rOwn_own l hok) ?_
    rintro H r ⟨rfl, rfl⟩ _ _
    refine ⟨.inl rfl, ?_⟩
    show AOb ((0 : Int) ≤ 2 ∧ (2 : Int) < 3) _
    refine ⟨by decide, ?_⟩
    show ∃ n, _
    refine ⟨0, ALoop.inv (ι := {i : Nat // i ≤ l.l2.length}) (fun i => ⟨[(1, .int 2), (2, .int low), (3, .int high), (4, .c (.ptr 0 0 0)), (8, .c (.ptr 1 0 0)), (11, .c (.ptr 2 0 0)), (12, .c (.own 3)), (13, .int i.1)], [(0, .vars ((EK.enc .lists l).map .d)), (1, .vars [.d .nilsl, .d .nilsl, .d .nilsl]), (2, .vars [.own 4, .own 5, .own 6]), (3, .data .int (outOf l.l2 low high i.1)), (4, .data .int l.l0), (5, .data .int l.l1), (6, .data .int (stayOf l.l2 low high i.1))], 32⟩) (fun i => l.l2.length - i.1) ⟨0, Nat.zero_le _⟩ ?_ ?_⟩
    · exact ⟨[(32, 0), (64, 1), (416, 2), (384, 4), (385, 5)], .cons _ _ _ .same (.cons _ _ _ .same (.cons _ _ _ .same (.cons _ _ _ (.c _ _ (.ptr _ _ _ _ rfl)) (.cons _ _ _ (.c _ _ (.ptr _ _ _ _ rfl)) (.cons _ _ _ (.c _ _ (.ptr _ _ _ _ rfl)) (.cons _ _ _ (.c _ _ (.nilown 3 .int rfl rfl)) (.cons _ _ _ .same .nil))))))), .old 0 32 _ _ _ rfl rfl (.vars _ _ (LeL_refl rfl)) (.old 1 64 _ _ _ rfl rfl (.vars _ _ (LeL_refl rfl)) (.old 2 416 _ _ _ rfl rfl (.vars _ _ (.cons _ _ _ _ (.own _ _ rfl) (.cons _ _ _ _ (.own _ _ rfl) (.cons _ _ _ _ (.nilown 6 .int rfl rfl) .nil)))) (.new 3 .int _ rfl (.old 4 384 _ _ _ rfl rfl (.data_eq rfl) (.old 5 385 _ _ _ rfl rfl (.data_eq rfl) (.new 6 .int _ rfl .nil)))))), rfl⟩
    · rintro ⟨i, hi⟩
      have ho := outOf_len l.l2 low high i
      have hs := stayOf_len l.l2 low high i
      show AOb ((0 : Int) ≤ 2 ∧ (2 : Int) < 3) _
      refine ⟨by decide, ?_⟩
      show ABr (decide ((i : Int) < (l.l2.length : Int))) _ _
      refine ⟨fun h2 => ?_, fun h2 => ?_⟩
      · have hlt : i < l.l2.length := by simpa using h2
        have e1 := outOf_step l.l2 low high i hlt
        have e2 := stayOf_step l.l2 low high i hlt
        show AOb ((0 : Int) ≤ 2 ∧ (2 : Int) < 3) _
        refine ⟨by decide, ?_⟩
        show AOb ((0 : Int) ≤ (i : Int) ∧ (i : Int) < (l.l2.length : Int)) _
        refine ⟨by omega, ?_⟩
        show ABr (cond (decide (at0 l.l2 i < low)) true (decide (at0 l.l2 i ≥ high))) _ _
        refine ⟨fun h3 => ?_, fun h3 => ?_⟩
        · have hp : ¬ inP low high (at0 l.l2 i) = true := by unfold inP; simp at h3 ⊢; omega
          rw [if_neg hp] at e1 e2
          show AOb ((0 : Int) ≤ 2 ∧ (2 : Int) < 3) _
          refine ⟨by decide, ?_⟩
          show AOb ((stayOf l.l2 low high i).length + 1 ≤ most) _
          refine ⟨by unfold most; omega, ?_⟩
          show AOb ((0 : Int) ≤ 2 ∧ (2 : Int) < 3) _
          refine ⟨by decide, ?_⟩
          show ARound _ _ _ _
          refine ⟨⟨i + 1, hlt⟩, Nat.sub_lt_sub_left hlt (Nat.lt_succ_self i), [(_, 6), (0, 0), (1, 1), (2, 2), (3, 3), (4, 4), (5, 5)], .cons _ _ _ .same (.cons _ _ _ .same (.cons _ _ _ .same (.cons _ _ _ (.c _ _ (.ptr _ _ _ _ rfl)) (.cons _ _ _ (.c _ _ (.ptr _ _ _ _ rfl)) (.cons _ _ _ (.c _ _ (.ptr _ _ _ _ rfl)) (.cons _ _ _ (.c _ _ (.own _ _ rfl)) (.cons _ _ _ (.int_eq (wrapP (i := i) (by unfold maxN; omega))) .nil))))))), .old 0 0 _ _ _ rfl rfl (.vars _ _ (LeL_refl rfl)) (.old 1 1 _ _ _ rfl rfl (.vars _ _ (LeL_refl rfl)) (.old 2 2 _ _ _ rfl rfl (.vars _ _ (.cons _ _ _ _ (.own _ _ rfl) (.cons _ _ _ _ (.own _ _ rfl) (.cons _ _ _ _ (.own1 _ _) .nil)))) (.old 3 3 _ _ _ rfl rfl (.data_eq ?_) (.old 4 4 _ _ _ rfl rfl (.data_eq rfl) (.old 5 5 _ _ _ rfl rfl (.data_eq rfl) (.old 6 _ _ _ _ rfl rfl (.data_eq ?_) .nil)))))), rfl⟩
          · exact e1.symm
          · exact e2.symm
        · have hp : inP low high (at0 l.l2 i) = true := by unfold inP; simp at h3 ⊢; omega
          rw [if_pos hp] at e1 e2
          show AOb ((outOf l.l2 low high i).length + 1 ≤ most) _
          refine ⟨by unfold most; omega, ?_⟩
          show ARound _ _ _ _
          refine ⟨⟨i + 1, hlt⟩, Nat.sub_lt_sub_left hlt (Nat.lt_succ_self i), [(_, 3), (0, 0), (1, 1), (2, 2), (4, 4), (5, 5), (6, 6)], .cons _ _ _ .same (.cons _ _ _ .same (.cons _ _ _ .same (.cons _ _ _ (.c _ _ (.ptr _ _ _ _ rfl)) (.cons _ _ _ (.c _ _ (.ptr _ _ _ _ rfl)) (.cons _ _ _ (.c _ _ (.ptr _ _ _ _ rfl)) (.cons _ _ _ (.c _ _ (.own1 _ _)) (.cons _ _ _ (.int_eq (wrapP (i := i) (by unfold maxN; omega))) .nil))))))), .old 0 0 _ _ _ rfl rfl (.vars _ _ (LeL_refl rfl)) (.old 1 1 _ _ _ rfl rfl (.vars _ _ (LeL_refl rfl)) (.old 2 2 _ _ _ rfl rfl (.vars _ _ (.cons _ _ _ _ (.own _ _ rfl) (.cons _ _ _ _ (.own _ _ rfl) (.cons _ _ _ _ (.own _ _ rfl) .nil)))) (.old 3 _ _ _ _ rfl rfl (.data_eq ?_) (.old 4 4 _ _ _ rfl rfl (.data_eq rfl) (.old 5 5 _ _ _ rfl rfl (.data_eq rfl) (.old 6 6 _ _ _ rfl rfl (.data_eq ?_) .nil)))))), rfl⟩
          · exact e1.symm
          · exact e2.symm
      · have hge : i = l.l2.length := by simp at h2; omega
        show ARet _ _ _
        refine ⟨[], [], [(l.set_ 2 (stayOf (l.at_ 2) low high (l.at_ 2).length)).tv, .c (.d (.sl .int (outOf (l.at_ 2) low high (l.at_ 2).length))), .int 0], .cons _ _ _ _ (.agg _ _ (.cons _ _ _ _ (.frz _ _ rfl) (.cons _ _ _ _ (.frz _ _ rfl) (.cons _ _ _ _ (.frz_eq rfl ?_) .nil)))) (.cons _ _ _ _ (.frz rfl ?_) (.cons _ _ _ _ .same .nil)), .nil, rfl, rfl, rfl⟩
        · show stayOf l.l2 low high i = _
          rw [hge]; rfl
        · show outOf l.l2 low high i = _
          rw [hge]; rfl
end Go.Abs
