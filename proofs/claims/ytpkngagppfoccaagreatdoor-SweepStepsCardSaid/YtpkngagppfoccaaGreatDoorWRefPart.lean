/- Walks: the document's lists: Part. -/
import Derived.Test.YtpkngagppfoccaaGreatDoorWPart
set_option linter.all false
set_option linter.unusedVariables false
set_option linter.unusedSimpArgs false
namespace Go.Abs
open Go.Proofs Go.Proofs.YtpkngagppfoccaaGreatDoor
set_option maxRecDepth 8000

theorem LeC.own2 {ρ : List (Nat × Nat)} {h h' : Heap} {b0 c0 : Nat} (b c : Nat) (hb : Nat.beq b0 b = false) : LeC ((b0, c0) :: (b, c) :: ρ) h h' (.own b) (.own c) := .own b c (by simp only [nmOf, hb, cond_false, Nat.beq_refl, cond_true])
theorem LeC.own3 {ρ : List (Nat × Nat)} {h h' : Heap} {b0 c0 b1 c1 : Nat} (b c : Nat) (hb : (Nat.beq b0 b || Nat.beq b1 b) = false) : LeC ((b0, c0) :: (b1, c1) :: (b, c) :: ρ) h h' (.own b) (.own c) := .own b c (by
  simp only [Bool.or_eq_false_iff] at hb
  simp only [nmOf, hb.1, hb.2, cond_false, Nat.beq_refl, cond_true])

theorem rOwn_own (l : Lists) (h : l.ok) : Spec X 26 [] [l.tv] (Ret (own3 l) own3T) := by
  refine spec_go X_ok Tryz.f26 (by kernel_rfl) (by kernel_rfl) (by kernel_rfl) fun _ _ => ⟨rfl, ?_⟩
  show ∃ n, _
  refine ⟨4, .next ?_⟩
  show ABr _ _ _
  refine ⟨fun _ => ?_, fun hb => absurd hb (by decide)⟩
  show AOb _ _
  refine ⟨by decide, ?_⟩
  show AOb (l.l0.length ≤ most) _
  refine ⟨h.1, ?_⟩
  show AOb _ _
  refine ⟨by decide, ?_⟩
  show ALoop _ _ _ _
  refine .next ?_
  show ABr _ _ _
  refine ⟨fun _ => ?_, fun hb => absurd hb (by decide)⟩
  show AOb _ _
  refine ⟨by decide, ?_⟩
  show AOb (l.l1.length ≤ most) _
  refine ⟨h.2.1, ?_⟩
  show AOb _ _
  refine ⟨by decide, ?_⟩
  show ALoop _ _ _ _
  refine .next ?_
  show ABr _ _ _
  refine ⟨fun _ => ?_, fun hb => absurd hb (by decide)⟩
  show AOb _ _
  refine ⟨by decide, ?_⟩
  show AOb (l.l2.length ≤ most) _
  refine ⟨h.2.2, ?_⟩
  show AOb _ _
  refine ⟨by decide, ?_⟩
  show ALoop _ _ _ _
  refine .next ?_
  show ABr _ _ _
  refine ⟨fun hb => absurd hb (by decide), fun _ => ?_⟩
  show ARet _ _ _
  exact ⟨[(_, 0), (_, 1), (_, 2)], own3 l, [own3T], .cons _ _ _ _ (.agg _ _ (.cons _ _ _ _ (.own1 _ _) (.cons _ _ _ _ (.own2 _ _ rfl) (.cons _ _ _ _ (.own3 _ _ rfl) .nil)))) .nil,
    .old 0 _ _ _ _ rfl rfl (.data_eq rfl) (.old 1 _ _ _ _ rfl rfl (.data_eq rfl) (.old 2 _ _ _ _ rfl rfl (.data_eq rfl) .nil)), rfl, rfl, rfl⟩

theorem rPart_spec (l : Lists) (c low high : Int) (h : 0 ≤ c ∧ c ≤ 2) (hok : l.ok) : Spec X 103 [] [l.tv, .int c, .int low, .int high]
    (Ret [] (.tup [(l.set_ c (stayOf (l.at_ c) low high (l.at_ c).length)).tv, .c (.d (.sl .int (outOf (l.at_ c) low high (l.at_ c).length))), .int 0])) := by
  refine spec_go X_ok Tryz.f103 (by kernel_rfl) (by kernel_rfl) (by kernel_rfl) fun _ _ => ⟨rfl, ?_⟩
  have hc : c = 0 ∨ c = 1 ∨ c = 2 := by omega
  rcases hc with rfl | rfl | rfl
  · have hm : l.l0.length ≤ 68719476736 := hok.1
    show ABr _ _ _
    refine ⟨fun hb => absurd hb (by decide), fun _ => ?_⟩
    show ACall _ _ _ _ _ _
    refine .mk _ (rOwn_own l hok) ?_
    rintro H r ⟨rfl, rfl⟩ _ _
    refine ⟨.inl rfl, ?_⟩
    show AOb ((0 : Int) ≤ 0 ∧ (0 : Int) < 3) _
    refine ⟨by decide, ?_⟩
    show ∃ n, _
    refine ⟨0, ALoop.inv (ι := {i : Nat // i ≤ l.l0.length}) (fun i => ⟨[(1, .int 0), (2, .int low), (3, .int high), (4, .c (.ptr 0 0 0)), (8, .c (.ptr 1 0 0)), (11, .c (.ptr 2 0 0)), (12, .c (.own 3)), (13, .int i.1)], [(0, .vars ((EK.enc .lists l).map .d)), (1, .vars [.d .nilsl, .d .nilsl, .d .nilsl]), (2, .vars [.own 4, .own 5, .own 6]), (3, .data .int (outOf l.l0 low high i.1)), (4, .data .int (stayOf l.l0 low high i.1)), (5, .data .int l.l1), (6, .data .int l.l2)], 32⟩) (fun i => l.l0.length - i.1) ⟨0, Nat.zero_le _⟩ ?_ ?_⟩
    · exact ⟨[(32, 0), (64, 1), (416, 2), (385, 5), (386, 6)], .cons _ _ _ .same (.cons _ _ _ .same (.cons _ _ _ .same (.cons _ _ _ (.c _ _ (.ptr _ _ _ _ rfl)) (.cons _ _ _ (.c _ _ (.ptr _ _ _ _ rfl)) (.cons _ _ _ (.c _ _ (.ptr _ _ _ _ rfl)) (.cons _ _ _ (.c _ _ (.nilown 3 .int rfl rfl)) (.cons _ _ _ .same .nil))))))), .old 0 32 _ _ _ rfl rfl (.vars _ _ (LeL_refl rfl)) (.old 1 64 _ _ _ rfl rfl (.vars _ _ (LeL_refl rfl)) (.old 2 416 _ _ _ rfl rfl (.vars _ _ (.cons _ _ _ _ (.nilown 4 .int rfl rfl) (.cons _ _ _ _ (.own _ _ rfl) (.cons _ _ _ _ (.own _ _ rfl) .nil)))) (.new 3 .int _ rfl (.new 4 .int _ rfl (.old 5 385 _ _ _ rfl rfl (.data_eq rfl) (.old 6 386 _ _ _ rfl rfl (.data_eq rfl) .nil)))))), rfl⟩
    · rintro ⟨i, hi⟩
      have ho := outOf_len l.l0 low high i
      have hs := stayOf_len l.l0 low high i
      show AOb ((0 : Int) ≤ 0 ∧ (0 : Int) < 3) _
      refine ⟨by decide, ?_⟩
      show ABr (decide ((i : Int) < (l.l0.length : Int))) _ _
      refine ⟨fun h2 => ?_, fun h2 => ?_⟩
      · have hlt : i < l.l0.length := by simpa using h2
        have e1 := outOf_step l.l0 low high i hlt
        have e2 := stayOf_step l.l0 low high i hlt
        show AOb ((0 : Int) ≤ 0 ∧ (0 : Int) < 3) _
        refine ⟨by decide, ?_⟩
        show AOb ((0 : Int) ≤ (i : Int) ∧ (i : Int) < (l.l0.length : Int)) _
        refine ⟨by omega, ?_⟩
        show ABr (cond (decide (at0 l.l0 i < low)) true (decide (at0 l.l0 i ≥ high))) _ _
        refine ⟨fun h3 => ?_, fun h3 => ?_⟩
        · have hp : ¬ inP low high (at0 l.l0 i) = true := by unfold inP; simp at h3 ⊢; omega
          rw [if_neg hp] at e1 e2
          show AOb ((0 : Int) ≤ 0 ∧ (0 : Int) < 3) _
          refine ⟨by decide, ?_⟩
          show AOb ((stayOf l.l0 low high i).length + 1 ≤ most) _
          refine ⟨by unfold most; omega, ?_⟩
          show AOb ((0 : Int) ≤ 0 ∧ (0 : Int) < 3) _
          refine ⟨by decide, ?_⟩
          show ARound _ _ _ _
          refine ⟨⟨i + 1, hlt⟩, Nat.sub_lt_sub_left hlt (Nat.lt_succ_self i), [(_, 4), (0, 0), (1, 1), (2, 2), (3, 3), (5, 5), (6, 6)], .cons _ _ _ .same (.cons _ _ _ .same (.cons _ _ _ .same (.cons _ _ _ (.c _ _ (.ptr _ _ _ _ rfl)) (.cons _ _ _ (.c _ _ (.ptr _ _ _ _ rfl)) (.cons _ _ _ (.c _ _ (.ptr _ _ _ _ rfl)) (.cons _ _ _ (.c _ _ (.own _ _ rfl)) (.cons _ _ _ (.int_eq (wrapP (i := i) (by unfold maxN; omega))) .nil))))))), .old 0 0 _ _ _ rfl rfl (.vars _ _ (LeL_refl rfl)) (.old 1 1 _ _ _ rfl rfl (.vars _ _ (LeL_refl rfl)) (.old 2 2 _ _ _ rfl rfl (.vars _ _ (.cons _ _ _ _ (.own1 _ _) (.cons _ _ _ _ (.own _ _ rfl) (.cons _ _ _ _ (.own _ _ rfl) .nil)))) (.old 3 3 _ _ _ rfl rfl (.data_eq ?_) (.old 4 _ _ _ _ rfl rfl (.data_eq ?_) (.old 5 5 _ _ _ rfl rfl (.data_eq rfl) (.old 6 6 _ _ _ rfl rfl (.data_eq rfl) .nil)))))), rfl⟩
          · exact e1.symm
          · exact e2.symm
        · have hp : inP low high (at0 l.l0 i) = true := by unfold inP; simp at h3 ⊢; omega
          rw [if_pos hp] at e1 e2
          show AOb ((outOf l.l0 low high i).length + 1 ≤ most) _
          refine ⟨by unfold most; omega, ?_⟩
          show ARound _ _ _ _
          refine ⟨⟨i + 1, hlt⟩, Nat.sub_lt_sub_left hlt (Nat.lt_succ_self i), [(_, 3), (0, 0), (1, 1), (2, 2), (4, 4), (5, 5), (6, 6)], .cons _ _ _ .same (.cons _ _ _ .same (.cons _ _ _ .same (.cons _ _ _ (.c _ _ (.ptr _ _ _ _ rfl)) (.cons _ _ _ (.c _ _ (.ptr _ _ _ _ rfl)) (.cons _ _ _ (.c _ _ (.ptr _ _ _ _ rfl)) (.cons _ _ _ (.c _ _ (.own1 _ _)) (.cons _ _ _ (.int_eq (wrapP (i := i) (by unfold maxN; omega))) .nil))))))), .old 0 0 _ _ _ rfl rfl (.vars _ _ (LeL_refl rfl)) (.old 1 1 _ _ _ rfl rfl (.vars _ _ (LeL_refl rfl)) (.old 2 2 _ _ _ rfl rfl (.vars _ _ (.cons _ _ _ _ (.own _ _ rfl) (.cons _ _ _ _ (.own _ _ rfl) (.cons _ _ _ _ (.own _ _ rfl) .nil)))) (.old 3 _ _ _ _ rfl rfl (.data_eq ?_) (.old 4 4 _ _ _ rfl rfl (.data_eq ?_) (.old 5 5 _ _ _ rfl rfl (.data_eq rfl) (.old 6 6 _ _ _ rfl rfl (.data_eq rfl) .nil)))))), rfl⟩
          · exact e1.symm
          · exact e2.symm
      · have hge : i = l.l0.length := by simp at h2; omega
        show ARet _ _ _
        refine ⟨[], [], [(l.set_ 0 (stayOf (l.at_ 0) low high (l.at_ 0).length)).tv, .c (.d (.sl .int (outOf (l.at_ 0) low high (l.at_ 0).length))), .int 0], .cons _ _ _ _ (.agg _ _ (.cons _ _ _ _ (.frz_eq rfl ?_) (.cons _ _ _ _ (.frz _ _ rfl) (.cons _ _ _ _ (.frz _ _ rfl) .nil)))) (.cons _ _ _ _ (.frz rfl ?_) (.cons _ _ _ _ .same .nil)), .nil, rfl, rfl, rfl⟩
        · show stayOf l.l0 low high i = _
          rw [hge]; rfl
        · show outOf l.l0 low high i = _
          rw [hge]; rfl
  · have hm : l.l1.length ≤ 68719476736 := hok.2.1
    show ABr _ _ _
    refine ⟨fun hb => absurd hb (by decide), fun _ => ?_⟩
    show ACall _ _ _ _ _ _
    refine .mk _ (rOwn_own l hok) ?_
    rintro H r ⟨rfl, rfl⟩ _ _
    refine ⟨.inl rfl, ?_⟩
    show AOb ((0 : Int) ≤ 1 ∧ (1 : Int) < 3) _
    refine ⟨by decide, ?_⟩
    show ∃ n, _
    refine ⟨0, ALoop.inv (ι := {i : Nat // i ≤ l.l1.length}) (fun i => ⟨[(1, .int 1), (2, .int low), (3, .int high), (4, .c (.ptr 0 0 0)), (8, .c (.ptr 1 0 0)), (11, .c (.ptr 2 0 0)), (12, .c (.own 3)), (13, .int i.1)], [(0, .vars ((EK.enc .lists l).map .d)), (1, .vars [.d .nilsl, .d .nilsl, .d .nilsl]), (2, .vars [.own 4, .own 5, .own 6]), (3, .data .int (outOf l.l1 low high i.1)), (4, .data .int l.l0), (5, .data .int (stayOf l.l1 low high i.1)), (6, .data .int l.l2)], 32⟩) (fun i => l.l1.length - i.1) ⟨0, Nat.zero_le _⟩ ?_ ?_⟩
    · exact ⟨[(32, 0), (64, 1), (416, 2), (384, 4), (386, 6)], .cons _ _ _ .same (.cons _ _ _ .same (.cons _ _ _ .same (.cons _ _ _ (.c _ _ (.ptr _ _ _ _ rfl)) (.cons _ _ _ (.c _ _ (.ptr _ _ _ _ rfl)) (.cons _ _ _ (.c _ _ (.ptr _ _ _ _ rfl)) (.cons _ _ _ (.c _ _ (.nilown 3 .int rfl rfl)) (.cons _ _ _ .same .nil))))))), .old 0 32 _ _ _ rfl rfl (.vars _ _ (LeL_refl rfl)) (.old 1 64 _ _ _ rfl rfl (.vars _ _ (LeL_refl rfl)) (.old 2 416 _ _ _ rfl rfl (.vars _ _ (.cons _ _ _ _ (.own _ _ rfl) (.cons _ _ _ _ (.nilown 5 .int rfl rfl) (.cons _ _ _ _ (.own _ _ rfl) .nil)))) (.new 3 .int _ rfl (.old 4 384 _ _ _ rfl rfl (.data_eq rfl) (.new 5 .int _ rfl (.old 6 386 _ _ _ rfl rfl (.data_eq rfl) .nil)))))), rfl⟩
    · rintro ⟨i, hi⟩
      have ho := outOf_len l.l1 low high i
      have hs := stayOf_len l.l1 low high i
      show AOb ((0 : Int) ≤ 1 ∧ (1 : Int) < 3) _
      refine ⟨by decide, ?_⟩
      show ABr (decide ((i : Int) < (l.l1.length : Int))) _ _
      refine ⟨fun h2 => ?_, fun h2 => ?_⟩
      · have hlt : i < l.l1.length := by simpa using h2
        have e1 := outOf_step l.l1 low high i hlt
        have e2 := stayOf_step l.l1 low high i hlt
        show AOb ((0 : Int) ≤ 1 ∧ (1 : Int) < 3) _
        refine ⟨by decide, ?_⟩
        show AOb ((0 : Int) ≤ (i : Int) ∧ (i : Int) < (l.l1.length : Int)) _
        refine ⟨by omega, ?_⟩
        show ABr (cond (decide (at0 l.l1 i < low)) true (decide (at0 l.l1 i ≥ high))) _ _
        refine ⟨fun h3 => ?_, fun h3 => ?_⟩
        · have hp : ¬ inP low high (at0 l.l1 i) = true := by unfold inP; simp at h3 ⊢; omega
          rw [if_neg hp] at e1 e2
          show AOb ((0 : Int) ≤ 1 ∧ (1 : Int) < 3) _
          refine ⟨by decide, ?_⟩
          show AOb ((stayOf l.l1 low high i).length + 1 ≤ most) _
          refine ⟨by unfold most; omega, ?_⟩
          show AOb ((0 : Int) ≤ 1 ∧ (1 : Int) < 3) _
          refine ⟨by decide, ?_⟩
          show ARound _ _ _ _
          refine ⟨⟨i + 1, hlt⟩, Nat.sub_lt_sub_left hlt (Nat.lt_succ_self i), [(_, 5), (0, 0), (1, 1), (2, 2), (3, 3), (4, 4), (6, 6)], .cons _ _ _ .same (.cons _ _ _ .same (.cons _ _ _ .same (.cons _ _ _ (.c _ _ (.ptr _ _ _ _ rfl)) (.cons _ _ _ (.c _ _ (.ptr _ _ _ _ rfl)) (.cons _ _ _ (.c _ _ (.ptr _ _ _ _ rfl)) (.cons _ _ _ (.c _ _ (.own _ _ rfl)) (.cons _ _ _ (.int_eq (wrapP (i := i) (by unfold maxN; omega))) .nil))))))), .old 0 0 _ _ _ rfl rfl (.vars _ _ (LeL_refl rfl)) (.old 1 1 _ _ _ rfl rfl (.vars _ _ (LeL_refl rfl)) (.old 2 2 _ _ _ rfl rfl (.vars _ _ (.cons _ _ _ _ (.own _ _ rfl) (.cons _ _ _ _ (.own1 _ _) (.cons _ _ _ _ (.own _ _ rfl) .nil)))) (.old 3 3 _ _ _ rfl rfl (.data_eq ?_) (.old 4 4 _ _ _ rfl rfl (.data_eq rfl) (.old 5 _ _ _ _ rfl rfl (.data_eq ?_) (.old 6 6 _ _ _ rfl rfl (.data_eq rfl) .nil)))))), rfl⟩
          · exact e1.symm
          · exact e2.symm
        · have hp : inP low high (at0 l.l1 i) = true := by unfold inP; simp at h3 ⊢; omega
          rw [if_pos hp] at e1 e2
          show AOb ((outOf l.l1 low high i).length + 1 ≤ most) _
          refine ⟨by unfold most; omega, ?_⟩
          show ARound _ _ _ _
          refine ⟨⟨i + 1, hlt⟩, Nat.sub_lt_sub_left hlt (Nat.lt_succ_self i), [(_, 3), (0, 0), (1, 1), (2, 2), (4, 4), (5, 5), (6, 6)], .cons _ _ _ .same (.cons _ _ _ .same (.cons _ _ _ .same (.cons _ _ _ (.c _ _ (.ptr _ _ _ _ rfl)) (.cons _ _ _ (.c _ _ (.ptr _ _ _ _ rfl)) (.cons _ _ _ (.c _ _ (.ptr _ _ _ _ rfl)) (.cons _ _ _ (.c _ _ (.own1 _ _)) (.cons _ _ _ (.int_eq (wrapP (i := i) (by unfold maxN; omega))) .nil))))))), .old 0 0 _ _ _ rfl rfl (.vars _ _ (LeL_refl rfl)) (.old 1 1 _ _ _ rfl rfl (.vars _ _ (LeL_refl rfl)) (.old 2 2 _ _ _ rfl rfl (.vars _ _ (.cons _ _ _ _ (.own _ _ rfl) (.cons _ _ _ _ (.own _ _ rfl) (.cons _ _ _ _ (.own _ _ rfl) .nil)))) (.old 3 _ _ _ _ rfl rfl (.data_eq ?_) (.old 4 4 _ _ _ rfl rfl (.data_eq rfl) (.old 5 5 _ _ _ rfl rfl (.data_eq ?_) (.old 6 6 _ _ _ rfl rfl (.data_eq rfl) .nil)))))), rfl⟩
          · exact e1.symm
          · exact e2.symm
      · have hge : i = l.l1.length := by simp at h2; omega
        show ARet _ _ _
        refine ⟨[], [], [(l.set_ 1 (stayOf (l.at_ 1) low high (l.at_ 1).length)).tv, .c (.d (.sl .int (outOf (l.at_ 1) low high (l.at_ 1).length))), .int 0], .cons _ _ _ _ (.agg _ _ (.cons _ _ _ _ (.frz _ _ rfl) (.cons _ _ _ _ (.frz_eq rfl ?_) (.cons _ _ _ _ (.frz _ _ rfl) .nil)))) (.cons _ _ _ _ (.frz rfl ?_) (.cons _ _ _ _ .same .nil)), .nil, rfl, rfl, rfl⟩
        · show stayOf l.l1 low high i = _
          rw [hge]; rfl
        · show outOf l.l1 low high i = _
          rw [hge]; rfl
  · have hm : l.l2.length ≤ 68719476736 := hok.2.2
    show ABr _ _ _
    refine ⟨fun hb => absurd hb (by decide), fun _ => ?_⟩
    show ACall _ _ _ _ _ _
    refine .mk _ (rOwn_own l hok) ?_
    rintro H r ⟨rfl, rfl⟩ _ _
    refine ⟨.inl rfl, ?_⟩
    show AOb ((0 : Int) ≤ 2 ∧ (2 : Int) < 3) _
    refine ⟨by decide, ?_⟩
    show ∃ n, _
    refine ⟨0, ALoop.inv (ι := {i : Nat // i ≤ l.l2.length}) (fun i => ⟨[(1, .int 2), (2, .int low), (3, .int high), (4, .c (.ptr 0 0 0)), (8, .c (.ptr 1 0 0)), (11, .c (.ptr 2 0 0)), (12, .c (.own 3)), (13, .int i.1)], [(0, .vars ((EK.enc .lists l).map .d)), (1, .vars [.d .nilsl, .d .nilsl, .d .nilsl]), (2, .vars [.own 4, .own 5, .own 6]), (3, .data .int (outOf l.l2 low high i.1)), (4, .data .int l.l0), (5, .data .int l.l1), (6, .data .int (stayOf l.l2 low high i.1))], 32⟩) (fun i => l.l2.length - i.1) ⟨0, Nat.zero_le _⟩ ?_ ?_⟩
    · exact ⟨[(32, 0), (64, 1), (416, 2), (384, 4), (385, 5)], .cons _ _ _ .same (.cons _ _ _ .same (.cons _ _ _ .same (.cons _ _ _ (.c _ _ (.ptr _ _ _ _ rfl)) (.cons _ _ _ (.c _ _ (.ptr _ _ _ _ rfl)) (.cons _ _ _ (.c _ _ (.ptr _ _ _ _ rfl)) (.cons _ _ _ (.c _ _ (.nilown 3 .int rfl rfl)) (.cons _ _ _ .same .nil))))))), .old 0 32 _ _ _ rfl rfl (.vars _ _ (LeL_refl rfl)) (.old 1 64 _ _ _ rfl rfl (.vars _ _ (LeL_refl rfl)) (.old 2 416 _ _ _ rfl rfl (.vars _ _ (.cons _ _ _ _ (.own _ _ rfl) (.cons _ _ _ _ (.own _ _ rfl) (.cons _ _ _ _ (.nilown 6 .int rfl rfl) .nil)))) (.new 3 .int _ rfl (.old 4 384 _ _ _ rfl rfl (.data_eq rfl) (.old 5 385 _ _ _ rfl rfl (.data_eq rfl) (.new 6 .int _ rfl .nil)))))), rfl⟩
    · rintro ⟨i, hi⟩
      have ho := outOf_len l.l2 low high i
      have hs := stayOf_len l.l2 low high i
      show AOb ((0 : Int) ≤ 2 ∧ (2 : Int) < 3) _
      refine ⟨by decide, ?_⟩
      show ABr (decide ((i : Int) < (l.l2.length : Int))) _ _
      refine ⟨fun h2 => ?_, fun h2 => ?_⟩
      · have hlt : i < l.l2.length := by simpa using h2
        have e1 := outOf_step l.l2 low high i hlt
        have e2 := stayOf_step l.l2 low high i hlt
        show AOb ((0 : Int) ≤ 2 ∧ (2 : Int) < 3) _
        refine ⟨by decide, ?_⟩
        show AOb ((0 : Int) ≤ (i : Int) ∧ (i : Int) < (l.l2.length : Int)) _
        refine ⟨by omega, ?_⟩
        show ABr (cond (decide (at0 l.l2 i < low)) true (decide (at0 l.l2 i ≥ high))) _ _
        refine ⟨fun h3 => ?_, fun h3 => ?_⟩
        · have hp : ¬ inP low high (at0 l.l2 i) = true := by unfold inP; simp at h3 ⊢; omega
          rw [if_neg hp] at e1 e2
          show AOb ((0 : Int) ≤ 2 ∧ (2 : Int) < 3) _
          refine ⟨by decide, ?_⟩
          show AOb ((stayOf l.l2 low high i).length + 1 ≤ most) _
          refine ⟨by unfold most; omega, ?_⟩
          show AOb ((0 : Int) ≤ 2 ∧ (2 : Int) < 3) _
          refine ⟨by decide, ?_⟩
          show ARound _ _ _ _
          refine ⟨⟨i + 1, hlt⟩, Nat.sub_lt_sub_left hlt (Nat.lt_succ_self i), [(_, 6), (0, 0), (1, 1), (2, 2), (3, 3), (4, 4), (5, 5)], .cons _ _ _ .same (.cons _ _ _ .same (.cons _ _ _ .same (.cons _ _ _ (.c _ _ (.ptr _ _ _ _ rfl)) (.cons _ _ _ (.c _ _ (.ptr _ _ _ _ rfl)) (.cons _ _ _ (.c _ _ (.ptr _ _ _ _ rfl)) (.cons _ _ _ (.c _ _ (.own _ _ rfl)) (.cons _ _ _ (.int_eq (wrapP (i := i) (by unfold maxN; omega))) .nil))))))), .old 0 0 _ _ _ rfl rfl (.vars _ _ (LeL_refl rfl)) (.old 1 1 _ _ _ rfl rfl (.vars _ _ (LeL_refl rfl)) (.old 2 2 _ _ _ rfl rfl (.vars _ _ (.cons _ _ _ _ (.own _ _ rfl) (.cons _ _ _ _ (.own _ _ rfl) (.cons _ _ _ _ (.own1 _ _) .nil)))) (.old 3 3 _ _ _ rfl rfl (.data_eq ?_) (.old 4 4 _ _ _ rfl rfl (.data_eq rfl) (.old 5 5 _ _ _ rfl rfl (.data_eq rfl) (.old 6 _ _ _ _ rfl rfl (.data_eq ?_) .nil)))))), rfl⟩
          · exact e1.symm
          · exact e2.symm
        · have hp : inP low high (at0 l.l2 i) = true := by unfold inP; simp at h3 ⊢; omega
          rw [if_pos hp] at e1 e2
          show AOb ((outOf l.l2 low high i).length + 1 ≤ most) _
          refine ⟨by unfold most; omega, ?_⟩
          show ARound _ _ _ _
          refine ⟨⟨i + 1, hlt⟩, Nat.sub_lt_sub_left hlt (Nat.lt_succ_self i), [(_, 3), (0, 0), (1, 1), (2, 2), (4, 4), (5, 5), (6, 6)], .cons _ _ _ .same (.cons _ _ _ .same (.cons _ _ _ .same (.cons _ _ _ (.c _ _ (.ptr _ _ _ _ rfl)) (.cons _ _ _ (.c _ _ (.ptr _ _ _ _ rfl)) (.cons _ _ _ (.c _ _ (.ptr _ _ _ _ rfl)) (.cons _ _ _ (.c _ _ (.own1 _ _)) (.cons _ _ _ (.int_eq (wrapP (i := i) (by unfold maxN; omega))) .nil))))))), .old 0 0 _ _ _ rfl rfl (.vars _ _ (LeL_refl rfl)) (.old 1 1 _ _ _ rfl rfl (.vars _ _ (LeL_refl rfl)) (.old 2 2 _ _ _ rfl rfl (.vars _ _ (.cons _ _ _ _ (.own _ _ rfl) (.cons _ _ _ _ (.own _ _ rfl) (.cons _ _ _ _ (.own _ _ rfl) .nil)))) (.old 3 _ _ _ _ rfl rfl (.data_eq ?_) (.old 4 4 _ _ _ rfl rfl (.data_eq rfl) (.old 5 5 _ _ _ rfl rfl (.data_eq rfl) (.old 6 6 _ _ _ rfl rfl (.data_eq ?_) .nil)))))), rfl⟩
          · exact e1.symm
          · exact e2.symm
      · have hge : i = l.l2.length := by simp at h2; omega
        show ARet _ _ _
        refine ⟨[], [], [(l.set_ 2 (stayOf (l.at_ 2) low high (l.at_ 2).length)).tv, .c (.d (.sl .int (outOf (l.at_ 2) low high (l.at_ 2).length))), .int 0], .cons _ _ _ _ (.agg _ _ (.cons _ _ _ _ (.frz _ _ rfl) (.cons _ _ _ _ (.frz _ _ rfl) (.cons _ _ _ _ (.frz_eq rfl ?_) .nil)))) (.cons _ _ _ _ (.frz rfl ?_) (.cons _ _ _ _ .same .nil)), .nil, rfl, rfl, rfl⟩
        · show stayOf l.l2 low high i = _
          rw [hge]; rfl
        · show outOf l.l2 low high i = _
          rw [hge]; rfl
end Go.Abs
