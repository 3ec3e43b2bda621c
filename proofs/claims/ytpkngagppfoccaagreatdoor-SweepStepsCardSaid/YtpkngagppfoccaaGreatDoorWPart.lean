/- Walks: the program's lists of free cells: Part. -/
import Derived.Test.YtpkngagppfoccaaGreatDoorWLists1
set_option linter.all false
set_option linter.unusedVariables false
set_option linter.unusedSimpArgs false
namespace Go.Abs
open Go.Proofs Go.Proofs.YtpkngagppfoccaaGreatDoor
set_option maxRecDepth 8000

def inP (low high a : Int) : Bool := decide (a ≥ low) && decide (a < high)
def outOf (a : List Int) (low high : Int) (i : Nat) : List Int := (a.take i).filter (inP low high)
def stayOf (a : List Int) (low high : Int) (i : Nat) : List Int := (a.take i).filter fun x => !inP low high x

theorem outOf_step (a : List Int) (low high : Int) (i : Nat) (h : i < a.length) : outOf a low high (i + 1) = if inP low high (at0 a i) then outOf a low high i ++ [at0 a i] else outOf a low high i := by
  unfold outOf
  rw [List.take_add_one, List.getElem?_eq_getElem h, List.filter_append, at0_get h]
  cases hp : inP low high a[i] <;> simp [hp]
theorem stayOf_step (a : List Int) (low high : Int) (i : Nat) (h : i < a.length) : stayOf a low high (i + 1) = if inP low high (at0 a i) then stayOf a low high i else stayOf a low high i ++ [at0 a i] := by
  unfold stayOf
  rw [List.take_add_one, List.getElem?_eq_getElem h, List.filter_append, at0_get h]
  cases hp : inP low high a[i] <;> simp [hp]
theorem outOf_len (a : List Int) (low high : Int) (i : Nat) : (outOf a low high i).length ≤ i := Nat.le_trans (List.length_filter_le _ _) (by simp; omega)
theorem stayOf_len (a : List Int) (low high : Int) (i : Nat) : (stayOf a low high i).length ≤ i := Nat.le_trans (List.length_filter_le _ _) (by simp; omega)

theorem Part_spec (l : Lists) (c low high : Int) (h : 0 ≤ c ∧ c ≤ 2) (hok : l.ok) : Spec X 151 [] [l.tv, .int c, .int low, .int high]
    (Ret [] (.tup [(l.set_ c (stayOf (l.at_ c) low high (l.at_ c).length)).tv, .c (.d (.sl .int (outOf (l.at_ c) low high (l.at_ c).length))), .int 0])) := by
  refine spec_go X_ok Tryz.f151 (by kernel_rfl) (by kernel_rfl) (by kernel_rfl) fun _ _ => ⟨rfl, ?_⟩
  have hc : c = 0 ∨ c = 1 ∨ c = 2 := by omega
  rcases hc with rfl | rfl | rfl
  · have hm : l.l0.length ≤ 68719476736 := hok.1
    show ACall _ _ _ _ _ _
    refine call_ret (is_spec 0) rfl ?_
    show ABr _ _ _
    refine ⟨fun hb => absurd hb (by decide), fun _ => ?_⟩
    show ACall _ _ _ _ _ _
    refine .mk _ (lown_spec l hok) ?_
    rintro H r ⟨rfl, rfl⟩ _ _
    refine ⟨.inl rfl, ?_⟩
    show AOb ((0 : Int) ≤ 0 ∧ (0 : Int) < 3) _
    refine ⟨by decide, ?_⟩
    show ∃ n, _
    refine ⟨0, ALoop.inv (ι := {i : Nat // i ≤ l.l0.length}) (fun i => ⟨[(1, .int 0), (2, .int low), (3, .int high), (4, .c (.ptr 0 0 0)), (8, .c (.ptr 1 0 0)), (11, .c (.own 5)), (12, .c (.own 6)), (23, .c (.own 2)), (24, .int l.l0.length), (25, .int i.1)], [(0, .vars [.own 2, .own 3, .own 4]), (1, .vars [.d .nilsl, .d .nilsl, .d .nilsl]), (2, .data .int l.l0), (3, .data .int l.l1), (4, .data .int l.l2), (5, .data .int (outOf l.l0 low high i.1)), (6, .data .int (stayOf l.l0 low high i.1))], 32⟩) (fun i => l.l0.length - i.1) ⟨0, Nat.zero_le _⟩ ?_ ?_⟩
    · exact ⟨[(32, 0), (64, 1), (288, 2), (289, 3), (290, 4)], .cons _ _ _ .same (.cons _ _ _ .same (.cons _ _ _ .same (.cons _ _ _ (.c _ _ (.ptr _ _ _ _ rfl)) (.cons _ _ _ (.c _ _ (.ptr _ _ _ _ rfl)) (.cons _ _ _ (.c _ _ (.nilown 5 .int rfl rfl)) (.cons _ _ _ (.c _ _ (.nilown 6 .int rfl rfl)) (.cons _ _ _ (.c _ _ (.own _ _ rfl)) (.cons _ _ _ .same (.cons _ _ _ .same .nil))))))))), .old 0 32 _ _ _ rfl rfl (.vars _ _ (.cons _ _ _ _ (.own _ _ rfl) (.cons _ _ _ _ (.own _ _ rfl) (.cons _ _ _ _ (.own _ _ rfl) .nil)))) (.old 1 64 _ _ _ rfl rfl (.vars _ _ (LeL_refl rfl)) (.old 2 288 _ _ _ rfl rfl (.data_eq rfl) (.old 3 289 _ _ _ rfl rfl (.data_eq rfl) (.old 4 290 _ _ _ rfl rfl (.data_eq rfl) (.new 5 .int _ rfl (.new 6 .int _ rfl .nil)))))), rfl⟩
    · rintro ⟨i, hi⟩
      have ho := outOf_len l.l0 low high i
      have hs := stayOf_len l.l0 low high i
      show ABr (decide ((i : Int) < (l.l0.length : Int))) _ _
      refine ⟨fun h2 => ?_, fun h2 => ?_⟩
      · have hlt : i < l.l0.length := by simpa using h2
        have e1 := outOf_step l.l0 low high i hlt
        have e2 := stayOf_step l.l0 low high i hlt
        show AOb ((0 : Int) ≤ (i : Int) ∧ (i : Int) < (l.l0.length : Int)) _
        refine ⟨by omega, ?_⟩
        show AOb ((i : Int).toNat < l.l0.length) _
        refine ⟨by omega, ?_⟩
        show ABr (cond (decide (at0 l.l0 i ≥ low)) (decide (at0 l.l0 i < high)) false) _ _
        refine ⟨fun h3 => ?_, fun h3 => ?_⟩
        · have hp : inP low high (at0 l.l0 i) = true := by unfold inP; simpa using h3
          rw [if_pos hp] at e1 e2
          show AOb ((outOf l.l0 low high i).length + 1 ≤ most) _
          refine ⟨by unfold most; omega, ?_⟩
          show ARound _ _ _ _
          refine ⟨⟨i + 1, hlt⟩, Nat.sub_lt_sub_left hlt (Nat.lt_succ_self i), [(_, 5), (0, 0), (1, 1), (2, 2), (3, 3), (4, 4), (6, 6)], .cons _ _ _ .same (.cons _ _ _ .same (.cons _ _ _ .same (.cons _ _ _ (.c _ _ (.ptr _ _ _ _ rfl)) (.cons _ _ _ (.c _ _ (.ptr _ _ _ _ rfl)) (.cons _ _ _ (.c _ _ (.own1 _ _)) (.cons _ _ _ (.c _ _ (.own _ _ rfl)) (.cons _ _ _ (.c _ _ (.own _ _ rfl)) (.cons _ _ _ .same (.cons _ _ _ (.int_eq (wrapP (i := i) (by unfold maxN; omega))) .nil))))))))), .old 0 0 _ _ _ rfl rfl (.vars _ _ (.cons _ _ _ _ (.own _ _ rfl) (.cons _ _ _ _ (.own _ _ rfl) (.cons _ _ _ _ (.own _ _ rfl) .nil)))) (.old 1 1 _ _ _ rfl rfl (.vars _ _ (LeL_refl rfl)) (.old 2 2 _ _ _ rfl rfl (.data_eq rfl) (.old 3 3 _ _ _ rfl rfl (.data_eq rfl) (.old 4 4 _ _ _ rfl rfl (.data_eq rfl) (.old 5 _ _ _ _ rfl rfl (.data_eq ?_) (.old 6 6 _ _ _ rfl rfl (.data_eq ?_) .nil)))))), rfl⟩
          · exact e1.symm
          · exact e2.symm
        · have hp : ¬ inP low high (at0 l.l0 i) = true := by unfold inP; simpa using h3
          rw [if_neg hp] at e1 e2
          show AOb ((stayOf l.l0 low high i).length + 1 ≤ most) _
          refine ⟨by unfold most; omega, ?_⟩
          show ARound _ _ _ _
          refine ⟨⟨i + 1, hlt⟩, Nat.sub_lt_sub_left hlt (Nat.lt_succ_self i), [(_, 6), (0, 0), (1, 1), (2, 2), (3, 3), (4, 4), (5, 5)], .cons _ _ _ .same (.cons _ _ _ .same (.cons _ _ _ .same (.cons _ _ _ (.c _ _ (.ptr _ _ _ _ rfl)) (.cons _ _ _ (.c _ _ (.ptr _ _ _ _ rfl)) (.cons _ _ _ (.c _ _ (.own _ _ rfl)) (.cons _ _ _ (.c _ _ (.own1 _ _)) (.cons _ _ _ (.c _ _ (.own _ _ rfl)) (.cons _ _ _ .same (.cons _ _ _ (.int_eq (wrapP (i := i) (by unfold maxN; omega))) .nil))))))))), .old 0 0 _ _ _ rfl rfl (.vars _ _ (.cons _ _ _ _ (.own _ _ rfl) (.cons _ _ _ _ (.own _ _ rfl) (.cons _ _ _ _ (.own _ _ rfl) .nil)))) (.old 1 1 _ _ _ rfl rfl (.vars _ _ (LeL_refl rfl)) (.old 2 2 _ _ _ rfl rfl (.data_eq rfl) (.old 3 3 _ _ _ rfl rfl (.data_eq rfl) (.old 4 4 _ _ _ rfl rfl (.data_eq rfl) (.old 5 5 _ _ _ rfl rfl (.data_eq ?_) (.old 6 _ _ _ _ rfl rfl (.data_eq ?_) .nil)))))), rfl⟩
          · exact e1.symm
          · exact e2.symm
      · have hge : i = l.l0.length := by simp at h2; omega
        show AOb ((0 : Int) ≤ 0 ∧ (0 : Int) < 3) _
        refine ⟨by decide, ?_⟩
        show ARet _ _ _
        refine ⟨[], [], [(l.set_ 0 (stayOf (l.at_ 0) low high (l.at_ 0).length)).tv, .c (.d (.sl .int (outOf (l.at_ 0) low high (l.at_ 0).length))), .int 0], .cons _ _ _ _ (.agg _ _ (.cons _ _ _ _ (.frz_eq rfl ?_) (.cons _ _ _ _ (.frz _ _ rfl) (.cons _ _ _ _ (.frz _ _ rfl) .nil)))) (.cons _ _ _ _ (.frz rfl ?_) (.cons _ _ _ _ .same .nil)), .nil, rfl, rfl, rfl⟩
        · show stayOf l.l0 low high i = _
          rw [hge]; rfl
        · show outOf l.l0 low high i = _
          rw [hge]; rfl
  · have hm : l.l1.length ≤ 68719476736 := hok.2.1
    show ACall _ _ _ _ _ _
    refine call_ret (is_spec 1) rfl ?_
    show ABr _ _ _
    refine ⟨fun hb => absurd hb (by decide), fun _ => ?_⟩
    show ACall _ _ _ _ _ _
    refine .mk _ (lown_spec l hok) ?_
    rintro H r ⟨rfl, rfl⟩ _ _
    refine ⟨.inl rfl, ?_⟩
    show AOb ((0 : Int) ≤ 1 ∧ (1 : Int) < 3) _
    refine ⟨by decide, ?_⟩
    show ∃ n, _
    refine ⟨0, ALoop.inv (ι := {i : Nat // i ≤ l.l1.length}) (fun i => ⟨[(1, .int 1), (2, .int low), (3, .int high), (4, .c (.ptr 0 0 0)), (8, .c (.ptr 1 0 0)), (11, .c (.own 5)), (12, .c (.own 6)), (23, .c (.own 3)), (24, .int l.l1.length), (25, .int i.1)], [(0, .vars [.own 2, .own 3, .own 4]), (1, .vars [.d .nilsl, .d .nilsl, .d .nilsl]), (2, .data .int l.l0), (3, .data .int l.l1), (4, .data .int l.l2), (5, .data .int (outOf l.l1 low high i.1)), (6, .data .int (stayOf l.l1 low high i.1))], 32⟩) (fun i => l.l1.length - i.1) ⟨0, Nat.zero_le _⟩ ?_ ?_⟩
    · exact ⟨[(32, 0), (64, 1), (288, 2), (289, 3), (290, 4)], .cons _ _ _ .same (.cons _ _ _ .same (.cons _ _ _ .same (.cons _ _ _ (.c _ _ (.ptr _ _ _ _ rfl)) (.cons _ _ _ (.c _ _ (.ptr _ _ _ _ rfl)) (.cons _ _ _ (.c _ _ (.nilown 5 .int rfl rfl)) (.cons _ _ _ (.c _ _ (.nilown 6 .int rfl rfl)) (.cons _ _ _ (.c _ _ (.own _ _ rfl)) (.cons _ _ _ .same (.cons _ _ _ .same .nil))))))))), .old 0 32 _ _ _ rfl rfl (.vars _ _ (.cons _ _ _ _ (.own _ _ rfl) (.cons _ _ _ _ (.own _ _ rfl) (.cons _ _ _ _ (.own _ _ rfl) .nil)))) (.old 1 64 _ _ _ rfl rfl (.vars _ _ (LeL_refl rfl)) (.old 2 288 _ _ _ rfl rfl (.data_eq rfl) (.old 3 289 _ _ _ rfl rfl (.data_eq rfl) (.old 4 290 _ _ _ rfl rfl (.data_eq rfl) (.new 5 .int _ rfl (.new 6 .int _ rfl .nil)))))), rfl⟩
    · rintro ⟨i, hi⟩
      have ho := outOf_len l.l1 low high i
      have hs := stayOf_len l.l1 low high i
      show ABr (decide ((i : Int) < (l.l1.length : Int))) _ _
      refine ⟨fun h2 => ?_, fun h2 => ?_⟩
      · have hlt : i < l.l1.length := by simpa using h2
        have e1 := outOf_step l.l1 low high i hlt
        have e2 := stayOf_step l.l1 low high i hlt
        show AOb ((0 : Int) ≤ (i : Int) ∧ (i : Int) < (l.l1.length : Int)) _
        refine ⟨by omega, ?_⟩
        show AOb ((i : Int).toNat < l.l1.length) _
        refine ⟨by omega, ?_⟩
        show ABr (cond (decide (at0 l.l1 i ≥ low)) (decide (at0 l.l1 i < high)) false) _ _
        refine ⟨fun h3 => ?_, fun h3 => ?_⟩
        · have hp : inP low high (at0 l.l1 i) = true := by unfold inP; simpa using h3
          rw [if_pos hp] at e1 e2
          show AOb ((outOf l.l1 low high i).length + 1 ≤ most) _
          refine ⟨by unfold most; omega, ?_⟩
          show ARound _ _ _ _
          refine ⟨⟨i + 1, hlt⟩, Nat.sub_lt_sub_left hlt (Nat.lt_succ_self i), [(_, 5), (0, 0), (1, 1), (2, 2), (3, 3), (4, 4), (6, 6)], .cons _ _ _ .same (.cons _ _ _ .same (.cons _ _ _ .same (.cons _ _ _ (.c _ _ (.ptr _ _ _ _ rfl)) (.cons _ _ _ (.c _ _ (.ptr _ _ _ _ rfl)) (.cons _ _ _ (.c _ _ (.own1 _ _)) (.cons _ _ _ (.c _ _ (.own _ _ rfl)) (.cons _ _ _ (.c _ _ (.own _ _ rfl)) (.cons _ _ _ .same (.cons _ _ _ (.int_eq (wrapP (i := i) (by unfold maxN; omega))) .nil))))))))), .old 0 0 _ _ _ rfl rfl (.vars _ _ (.cons _ _ _ _ (.own _ _ rfl) (.cons _ _ _ _ (.own _ _ rfl) (.cons _ _ _ _ (.own _ _ rfl) .nil)))) (.old 1 1 _ _ _ rfl rfl (.vars _ _ (LeL_refl rfl)) (.old 2 2 _ _ _ rfl rfl (.data_eq rfl) (.old 3 3 _ _ _ rfl rfl (.data_eq rfl) (.old 4 4 _ _ _ rfl rfl (.data_eq rfl) (.old 5 _ _ _ _ rfl rfl (.data_eq ?_) (.old 6 6 _ _ _ rfl rfl (.data_eq ?_) .nil)))))), rfl⟩
          · exact e1.symm
          · exact e2.symm
        · have hp : ¬ inP low high (at0 l.l1 i) = true := by unfold inP; simpa using h3
          rw [if_neg hp] at e1 e2
          show AOb ((stayOf l.l1 low high i).length + 1 ≤ most) _
          refine ⟨by unfold most; omega, ?_⟩
          show ARound _ _ _ _
          refine ⟨⟨i + 1, hlt⟩, Nat.sub_lt_sub_left hlt (Nat.lt_succ_self i), [(_, 6), (0, 0), (1, 1), (2, 2), (3, 3), (4, 4), (5, 5)], .cons _ _ _ .same (.cons _ _ _ .same (.cons _ _ _ .same (.cons _ _ _ (.c _ _ (.ptr _ _ _ _ rfl)) (.cons _ _ _ (.c _ _ (.ptr _ _ _ _ rfl)) (.cons _ _ _ (.c _ _ (.own _ _ rfl)) (.cons _ _ _ (.c _ _ (.own1 _ _)) (.cons _ _ _ (.c _ _ (.own _ _ rfl)) (.cons _ _ _ .same (.cons _ _ _ (.int_eq (wrapP (i := i) (by unfold maxN; omega))) .nil))))))))), .old 0 0 _ _ _ rfl rfl (.vars _ _ (.cons _ _ _ _ (.own _ _ rfl) (.cons _ _ _ _ (.own _ _ rfl) (.cons _ _ _ _ (.own _ _ rfl) .nil)))) (.old 1 1 _ _ _ rfl rfl (.vars _ _ (LeL_refl rfl)) (.old 2 2 _ _ _ rfl rfl (.data_eq rfl) (.old 3 3 _ _ _ rfl rfl (.data_eq rfl) (.old 4 4 _ _ _ rfl rfl (.data_eq rfl) (.old 5 5 _ _ _ rfl rfl (.data_eq ?_) (.old 6 _ _ _ _ rfl rfl (.data_eq ?_) .nil)))))), rfl⟩
          · exact e1.symm
          · exact e2.symm
      · have hge : i = l.l1.length := by simp at h2; omega
        show AOb ((0 : Int) ≤ 1 ∧ (1 : Int) < 3) _
        refine ⟨by decide, ?_⟩
        show ARet _ _ _
        refine ⟨[], [], [(l.set_ 1 (stayOf (l.at_ 1) low high (l.at_ 1).length)).tv, .c (.d (.sl .int (outOf (l.at_ 1) low high (l.at_ 1).length))), .int 0], .cons _ _ _ _ (.agg _ _ (.cons _ _ _ _ (.frz _ _ rfl) (.cons _ _ _ _ (.frz_eq rfl ?_) (.cons _ _ _ _ (.frz _ _ rfl) .nil)))) (.cons _ _ _ _ (.frz rfl ?_) (.cons _ _ _ _ .same .nil)), .nil, rfl, rfl, rfl⟩
        · show stayOf l.l1 low high i = _
          rw [hge]; rfl
        · show outOf l.l1 low high i = _
          rw [hge]; rfl
  · have hm : l.l2.length ≤ 68719476736 := hok.2.2
    show ACall _ _ _ _ _ _
    refine call_ret (is_spec 2) rfl ?_
    show ABr _ _ _
    refine ⟨fun hb => absurd hb (by decide), fun _ => ?_⟩
    show ACall _ _ _ _ _ _
    refine .mk _ (lown_spec l hok) ?_
    rintro H r ⟨rfl, rfl⟩ _ _
    refine ⟨.inl rfl, ?_⟩
    show AOb ((0 : Int) ≤ 2 ∧ (2 : Int) < 3) _
    refine ⟨by decide, ?_⟩
    show ∃ n, _
    refine ⟨0, ALoop.inv (ι := {i : Nat // i ≤ l.l2.length}) (fun i => ⟨[(1, .int 2), (2, .int low), (3, .int high), (4, .c (.ptr 0 0 0)), (8, .c (.ptr 1 0 0)), (11, .c (.own 5)), (12, .c (.own 6)), (23, .c (.own 4)), (24, .int l.l2.length), (25, .int i.1)], [(0, .vars [.own 2, .own 3, .own 4]), (1, .vars [.d .nilsl, .d .nilsl, .d .nilsl]), (2, .data .int l.l0), (3, .data .int l.l1), (4, .data .int l.l2), (5, .data .int (outOf l.l2 low high i.1)), (6, .data .int (stayOf l.l2 low high i.1))], 32⟩) (fun i => l.l2.length - i.1) ⟨0, Nat.zero_le _⟩ ?_ ?_⟩
    · exact ⟨[(32, 0), (64, 1), (288, 2), (289, 3), (290, 4)], .cons _ _ _ .same (.cons _ _ _ .same (.cons _ _ _ .same (.cons _ _ _ (.c _ _ (.ptr _ _ _ _ rfl)) (.cons _ _ _ (.c _ _ (.ptr _ _ _ _ rfl)) (.cons _ _ _ (.c _ _ (.nilown 5 .int rfl rfl)) (.cons _ _ _ (.c _ _ (.nilown 6 .int rfl rfl)) (.cons _ _ _ (.c _ _ (.own _ _ rfl)) (.cons _ _ _ .same (.cons _ _ _ .same .nil))))))))), .old 0 32 _ _ _ rfl rfl (.vars _ _ (.cons _ _ _ _ (.own _ _ rfl) (.cons _ _ _ _ (.own _ _ rfl) (.cons _ _ _ _ (.own _ _ rfl) .nil)))) (.old 1 64 _ _ _ rfl rfl (.vars _ _ (LeL_refl rfl)) (.old 2 288 _ _ _ rfl rfl (.data_eq rfl) (.old 3 289 _ _ _ rfl rfl (.data_eq rfl) (.old 4 290 _ _ _ rfl rfl (.data_eq rfl) (.new 5 .int _ rfl (.new 6 .int _ rfl .nil)))))), rfl⟩
    · rintro ⟨i, hi⟩
      have ho := outOf_len l.l2 low high i
      have hs := stayOf_len l.l2 low high i
      show ABr (decide ((i : Int) < (l.l2.length : Int))) _ _
      refine ⟨fun h2 => ?_, fun h2 => ?_⟩
      · have hlt : i < l.l2.length := by simpa using h2
        have e1 := outOf_step l.l2 low high i hlt
        have e2 := stayOf_step l.l2 low high i hlt
        show AOb ((0 : Int) ≤ (i : Int) ∧ (i : Int) < (l.l2.length : Int)) _
        refine ⟨by omega, ?_⟩
        show AOb ((i : Int).toNat < l.l2.length) _
        refine ⟨by omega, ?_⟩
        show ABr (cond (decide (at0 l.l2 i ≥ low)) (decide (at0 l.l2 i < high)) false) _ _
        refine ⟨fun h3 => ?_, fun h3 => ?_⟩
        · have hp : inP low high (at0 l.l2 i) = true := by unfold inP; simpa using h3
          rw [if_pos hp] at e1 e2
          show AOb ((outOf l.l2 low high i).length + 1 ≤ most) _
          refine ⟨by unfold most; omega, ?_⟩
          show ARound _ _ _ _
          refine ⟨⟨i + 1, hlt⟩, Nat.sub_lt_sub_left hlt (Nat.lt_succ_self i), [(_, 5), (0, 0), (1, 1), (2, 2), (3, 3), (4, 4), (6, 6)], .cons _ _ _ .same (.cons _ _ _ .same (.cons _ _ _ .same (.cons _ _ _ (.c _ _ (.ptr _ _ _ _ rfl)) (.cons _ _ _ (.c _ _ (.ptr _ _ _ _ rfl)) (.cons _ _ _ (.c _ _ (.own1 _ _)) (.cons _ _ _ (.c _ _ (.own _ _ rfl)) (.cons _ _ _ (.c _ _ (.own _ _ rfl)) (.cons _ _ _ .same (.cons _ _ _ (.int_eq (wrapP (i := i) (by unfold maxN; omega))) .nil))))))))), .old 0 0 _ _ _ rfl rfl (.vars _ _ (.cons _ _ _ _ (.own _ _ rfl) (.cons _ _ _ _ (.own _ _ rfl) (.cons _ _ _ _ (.own _ _ rfl) .nil)))) (.old 1 1 _ _ _ rfl rfl (.vars _ _ (LeL_refl rfl)) (.old 2 2 _ _ _ rfl rfl (.data_eq rfl) (.old 3 3 _ _ _ rfl rfl (.data_eq rfl) (.old 4 4 _ _ _ rfl rfl (.data_eq rfl) (.old 5 _ _ _ _ rfl rfl (.data_eq ?_) (.old 6 6 _ _ _ rfl rfl (.data_eq ?_) .nil)))))), rfl⟩
          · exact e1.symm
          · exact e2.symm
        · have hp : ¬ inP low high (at0 l.l2 i) = true := by unfold inP; simpa using h3
          rw [if_neg hp] at e1 e2
          show AOb ((stayOf l.l2 low high i).length + 1 ≤ most) _
          refine ⟨by unfold most; omega, ?_⟩
          show ARound _ _ _ _
          refine ⟨⟨i + 1, hlt⟩, Nat.sub_lt_sub_left hlt (Nat.lt_succ_self i), [(_, 6), (0, 0), (1, 1), (2, 2), (3, 3), (4, 4), (5, 5)], .cons _ _ _ .same (.cons _ _ _ .same (.cons _ _ _ .same (.cons _ _ _ (.c _ _ (.ptr _ _ _ _ rfl)) (.cons _ _ _ (.c _ _ (.ptr _ _ _ _ rfl)) (.cons _ _ _ (.c _ _ (.own _ _ rfl)) (.cons _ _ _ (.c _ _ (.own1 _ _)) (.cons _ _ _ (.c _ _ (.own _ _ rfl)) (.cons _ _ _ .same (.cons _ _ _ (.int_eq (wrapP (i := i) (by unfold maxN; omega))) .nil))))))))), .old 0 0 _ _ _ rfl rfl (.vars _ _ (.cons _ _ _ _ (.own _ _ rfl) (.cons _ _ _ _ (.own _ _ rfl) (.cons _ _ _ _ (.own _ _ rfl) .nil)))) (.old 1 1 _ _ _ rfl rfl (.vars _ _ (LeL_refl rfl)) (.old 2 2 _ _ _ rfl rfl (.data_eq rfl) (.old 3 3 _ _ _ rfl rfl (.data_eq rfl) (.old 4 4 _ _ _ rfl rfl (.data_eq rfl) (.old 5 5 _ _ _ rfl rfl (.data_eq ?_) (.old 6 _ _ _ _ rfl rfl (.data_eq ?_) .nil)))))), rfl⟩
          · exact e1.symm
          · exact e2.symm
      · have hge : i = l.l2.length := by simp at h2; omega
        show AOb ((0 : Int) ≤ 2 ∧ (2 : Int) < 3) _
        refine ⟨by decide, ?_⟩
        show ARet _ _ _
        refine ⟨[], [], [(l.set_ 2 (stayOf (l.at_ 2) low high (l.at_ 2).length)).tv, .c (.d (.sl .int (outOf (l.at_ 2) low high (l.at_ 2).length))), .int 0], .cons _ _ _ _ (.agg _ _ (.cons _ _ _ _ (.frz _ _ rfl) (.cons _ _ _ _ (.frz _ _ rfl) (.cons _ _ _ _ (.frz_eq rfl ?_) .nil)))) (.cons _ _ _ _ (.frz rfl ?_) (.cons _ _ _ _ .same .nil)), .nil, rfl, rfl, rfl⟩
        · show stayOf l.l2 low high i = _
          rw [hge]; rfl
        · show outOf l.l2 low high i = _
          rw [hge]; rfl
end Go.Abs
