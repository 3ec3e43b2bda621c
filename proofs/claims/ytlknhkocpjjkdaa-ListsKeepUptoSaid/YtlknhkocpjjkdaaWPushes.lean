/- Walks: the law ListsPushes. -/
import Derived.Test.YtlknhkocpjjkdaaWMoved
set_option linter.all false
set_option linter.unusedVariables false
set_option linter.unusedSimpArgs false
namespace Go.Abs
open Go.Proofs Go.Proofs.Ytlknhkocpjjkdaa
set_option maxRecDepth 8000

theorem LeL_lists {ρ : List (Nat × Nat)} {h h' : Heap} {x y : Lists} (e : x = y) : LeL ρ h h' ((EK.enc .lists x).map .d) ((EK.enc .lists y).map .d) := by subst e; exact LeL_refl rfl

theorem set_at {l : Lists} {c : Int} (h : 0 ≤ c ∧ c ≤ 2) (x : List Int) : (l.set_ c x).at_ c = x := by
  have hc : c = 0 ∨ c = 1 ∨ c = 2 := by omega
  rcases hc with rfl | rfl | rfl <;> rfl
theorem set_set {l : Lists} {c : Int} (h : 0 ≤ c ∧ c ≤ 2) (x y : List Int) : (l.set_ c x).set_ c y = l.set_ c y := by
  have hc : c = 0 ∨ c = 1 ∨ c = 2 := by omega
  rcases hc with rfl | rfl | rfl <;> rfl
theorem set_same {l : Lists} {c : Int} (h : 0 ≤ c ∧ c ≤ 2) : l.set_ c (l.at_ c) = l := by
  have hc : c = 0 ∨ c = 1 ∨ c = 2 := by omega
  rcases hc with rfl | rfl | rfl <;> rfl
theorem set_ok {l : Lists} {c : Int} {x : List Int} (hl : l.ok) (hx : x.length ≤ most) : (l.set_ c x).ok := by
  unfold Lists.set_
  obtain ⟨h0, h1, h2⟩ := hl
  split
  · exact ⟨hx, h1, h2⟩
  · split
    · exact ⟨h0, hx, h2⟩
    · exact ⟨h0, h1, hx⟩

set_option maxHeartbeats 1000000 in
theorem ListsPushes_spec (l : Lists) (hl : l.l0.length ≤ 1048576 ∧ l.l1.length ≤ 1048576 ∧ l.l2.length ≤ 1048576) (c : Int) (a : List Int) (hab : a.length ≤ 1048576) : Spec X 9 [] [l.tv, .int c, .c (.d (.sl .int a))] (Ret [] (.bo true)) := by
  refine Spec.fz (spec_go Xf_ok Try.f9 (by kernel_rfl) (by kernel_rfl) (by kernel_rfl) fun _ _ => ⟨rfl, ?_⟩)
  have hfl := flat_len l
  show ACall _ _ _ _ _ _
  refine call_ret awake6_spec.uz rfl ?_
  show AIf _ _ _
  refine ⟨fun h1 => ?_, fun h1 => ?_⟩
  · have h1 : cond (cond (cond (!true) true (decide (c < 0))) true (decide (c > 2))) true (decide ((a.length : Int) > 20)) = false ∧ True := h1
    simp at h1
    show ACall _ _ _ _ _ _
    refine .mk _ (All_spec [l] (by rw [flats_one]; unfold most; omega)).uz ?_
    rintro H r ⟨rfl, rfl⟩ _ _
    refine ⟨.inl rfl, ?_⟩
    show ABr (decide (((flats [l]).length : Int) > 120)) _ _
    refine ⟨fun _ => ?_, fun h2 => ?_⟩
    · show ARet _ _ _
      exact ret_bo (y := true) rfl ⟨rfl, rfl⟩
    · rw [flats_one, hfl] at h2
      simp at h2
      have hok : l.ok := by unfold Lists.ok most; omega
      have hc : 0 ≤ c ∧ c ≤ 2 := by omega
      have hatl : (l.at_ c).length ≤ 120 := at_le (n := 120) (by omega) c
      have ha : a.length ≤ 20 := by omega
      have mst : ∀ n, n ≤ 1000 → n ≤ most := fun n hn => by unfold most; omega
      show ACall _ _ _ _ _ _
      refine call_ret (Push_spec l c a hc hok (mst _ (by omega))).uz rfl ?_
      show ∃ n, _
      refine ⟨0, ALoop.inv (ι := {i : Nat // i ≤ a.length}) (fun i => ⟨[(1, .int c), (2, .c (.d (.sl .int a))), (3, .c (.ptr 0 0 0)), (8, .c (.ptr 1 0 0)), (10, .c (.ptr 2 0 0)), (9, .int 0), (11, .int i.1)],
        [(0, .vars ((EK.enc .lists l).map .d)), (1, .vars ((EK.enc .lists (l.set_ c (l.at_ c ++ a))).map .d)), (2, .vars ((EK.enc .lists (l.set_ c (l.at_ c ++ a.take i.1))).map .d))], 96⟩) (fun i => a.length - i.1) ⟨0, Nat.zero_le _⟩ ?_ ?_⟩
      · exact ⟨[(32, 0), (1088, 1), (1216, 2)], .cons _ _ _ .same (.cons _ _ _ .same (.cons _ _ _ (.c _ _ (.ptr _ _ _ _ rfl)) (.cons _ _ _ (.c _ _ (.ptr _ _ _ _ rfl)) (.cons _ _ _ (.c _ _ (.ptr _ _ _ _ rfl)) (.cons _ _ _ .same (.cons _ _ _ .same .nil)))))),
          .old 0 32 _ _ _ rfl rfl (.vars _ _ (LeL_refl rfl)) (.old 1 1088 _ _ _ rfl rfl (.vars _ _ (LeL_refl rfl)) (.old 2 1216 _ _ _ rfl rfl (.vars _ _ (LeL_lists (x := l) (by show l = l.set_ c (l.at_ c ++ []); rw [List.append_nil, set_same hc]))) .nil)), rfl⟩
      · rintro ⟨i, hi⟩
        have htl : (a.take i).length = i := by simp; omega
        have hone : (l.set_ c (l.at_ c ++ a.take i)).ok := set_ok hok (mst _ (by rw [List.length_append, htl]; omega))
        show ABr (decide ((i : Int) < (a.length : Int))) _ _
        refine ⟨fun h3 => ?_, fun h3 => ?_⟩
        · have hlt : i < a.length := by simpa using h3
          show AOb ((0 : Int) ≤ (i : Int) ∧ (i : Int) < (a.length : Int)) _
          refine ⟨by omega, ?_⟩
          show ADCall _ _ _ _ _ _
          refine .mk [] _ (Push_spec (l.set_ c (l.at_ c ++ a.take i)) c [at0 a i] hc hone (mst _ (by rw [set_at hc, List.length_append, htl]; show _ + 1 ≤ 1000; omega))).uz rfl ?_
          show ARound _ _ _ _
          refine ⟨⟨i + 1, hlt⟩, Nat.sub_lt_sub_left hlt (Nat.lt_succ_self i), [(0, 0), (1, 1), (2, 2)], .cons _ _ _ .same (.cons _ _ _ .same (.cons _ _ _ (.c _ _ (.ptr _ _ _ _ rfl)) (.cons _ _ _ (.c _ _ (.ptr _ _ _ _ rfl)) (.cons _ _ _ (.c _ _ (.ptr _ _ _ _ rfl)) (.cons _ _ _ .same (.cons _ _ _ (.int_eq (wrapP (i := i) (by unfold maxN; omega))) .nil)))))),
            .old 0 0 _ _ _ rfl rfl (.vars _ _ (LeL_refl rfl)) (.old 1 1 _ _ _ rfl rfl (.vars _ _ (LeL_refl rfl)) (.old 2 2 _ _ _ rfl rfl (.vars _ _ (LeL_lists (x := (l.set_ c (l.at_ c ++ a.take i)).set_ c ((l.set_ c (l.at_ c ++ a.take i)).at_ c ++ [at0 a i])) ?_)) .nil)), rfl⟩
          show (l.set_ c (l.at_ c ++ a.take i)).set_ c ((l.set_ c (l.at_ c ++ a.take i)).at_ c ++ [at0 a i]) = l.set_ c (l.at_ c ++ a.take (i + 1))
          rw [set_at hc, set_set hc, take_step a i hlt, List.append_assoc]
        · have hge : i = a.length := by simp at h3; omega
          subst hge
          show ACall _ _ _ _ _ _
          refine call_ret (rSame_spec (l.set_ c (l.at_ c ++ a)) (l.set_ c (l.at_ c ++ a.take a.length))).uz rfl ?_
          rw [List.take_length, decide_eq_true rfl]
          show ∃ n, _
          refine ⟨0, ALoop.inv (ι := {j : Nat // j ≤ a.length}) (fun j => ⟨[(1, .int c), (2, .c (.d (.sl .int a))), (3, .c (.ptr 0 0 0)), (8, .c (.ptr 1 0 0)), (9, .int 0), (12, .bo true), (13, .int ((j.1 : Int) - 1))],
            [(0, .vars ((EK.enc .lists l).map .d)), (1, .vars ((EK.enc .lists (l.set_ c (l.at_ c ++ a.take j.1))).map .d))], 96⟩) (fun j => j.1) ⟨a.length, Nat.le_refl _⟩ ?_ ?_⟩
          · refine ⟨[(0, 0), (1, 1)], .cons _ _ _ .same (.cons _ _ _ .same (.cons _ _ _ (.c _ _ (.ptr _ _ _ _ rfl)) (.cons _ _ _ (.c _ _ (.ptr _ _ _ _ rfl)) (.cons _ _ _ .same (.cons _ _ _ .same (.cons _ _ _ (.int_eq ?_) .nil)))))),
              .old 0 0 _ _ _ rfl rfl (.vars _ _ (LeL_refl rfl)) (.old 1 1 _ _ _ rfl rfl (.vars _ _ (LeL_lists (x := l.set_ c (l.at_ c ++ a)) ?_)) .nil), rfl⟩
            · show IntKind.i64.wrap ((a.length : Int) - 1) = (a.length : Int) - 1
              rw [wrap64 (by omega) (by omega)]
            · show l.set_ c (l.at_ c ++ a) = l.set_ c (l.at_ c ++ a.take a.length)
              rw [List.take_length]
          · rintro ⟨j, hj⟩
            have htj : (a.take j).length = j := by simp; omega
            have hall : (l.set_ c (l.at_ c ++ a.take j)).ok := set_ok hok (mst _ (by rw [List.length_append, htj]; omega))
            show ABr (decide ((j : Int) - 1 ≥ 0)) _ _
            refine ⟨fun h4 => ?_, fun h4 => ?_⟩
            · have hjp : 0 < j := by simp at h4; omega
              have hlenj : ((l.set_ c (l.at_ c ++ a.take j)).at_ c).length = (l.at_ c).length + j := by rw [set_at hc, List.length_append, htj]
              show ACall _ _ _ _ _ _
              refine call_ret (Pop_spec (l.set_ c (l.at_ c ++ a.take j)) c hc hall (by rw [hlenj]; omega)).uz rfl ?_
              show AOb (_ → (0 : Int) ≤ (j : Int) - 1 ∧ (j : Int) - 1 < (a.length : Int)) _
              refine ⟨fun _ => by omega, ?_⟩
              have hx : at0 ((l.set_ c (l.at_ c ++ a.take j)).at_ c) (((l.set_ c (l.at_ c ++ a.take j)).at_ c).length - 1) = at0 a ((j : Int) - 1).toNat := by
                rw [hlenj, set_at hc, at0_app, if_neg (by omega), at0_take _ _ _ (by omega)]
                congr 1
                omega
              show ABr (cond (!decide ((0 : Int) = 0)) true (!decide (at0 ((l.set_ c (l.at_ c ++ a.take j)).at_ c) (((l.set_ c (l.at_ c ++ a.take j)).at_ c).length - 1) = at0 a ((j : Int) - 1).toNat))) _ _
              refine ⟨fun h5 => absurd h5 (by rw [hx]; simp), fun _ => ?_⟩
              show ARound _ _ _ _
              refine ⟨⟨j - 1, by omega⟩, by show j - 1 < j; omega, [(0, 0), (1, 1)], .cons _ _ _ .same (.cons _ _ _ .same (.cons _ _ _ (.c _ _ (.ptr _ _ _ _ rfl)) (.cons _ _ _ (.c _ _ (.ptr _ _ _ _ rfl)) (.cons _ _ _ .same (.cons _ _ _ .same (.cons _ _ _ (.int_eq ?_) .nil)))))),
                .old 0 0 _ _ _ rfl rfl (.vars _ _ (LeL_refl rfl)) (.old 1 1 _ _ _ rfl rfl (.vars _ _ (LeL_lists (x := (l.set_ c (l.at_ c ++ a.take j)).set_ c (((l.set_ c (l.at_ c ++ a.take j)).at_ c).take (((l.set_ c (l.at_ c ++ a.take j)).at_ c).length - 1))) ?_)) .nil), rfl⟩
              · show IntKind.i64.wrap ((j : Int) - 1 - 1) = ((j - 1 : Nat) : Int) - 1
                rw [wrap64 (by omega) (by omega)]; omega
              · show (l.set_ c (l.at_ c ++ a.take j)).set_ c (((l.set_ c (l.at_ c ++ a.take j)).at_ c).take (((l.set_ c (l.at_ c ++ a.take j)).at_ c).length - 1)) = l.set_ c (l.at_ c ++ a.take (j - 1))
                rw [hlenj, set_at hc, set_set hc]
                congr 1
                rw [show (l.at_ c).length + j - 1 = (l.at_ c).length + (j - 1) by omega, List.take_length_add_append, List.take_take]
                congr 2
                omega
            · have hj0 : j = 0 := by simp at h4; omega
              subst hj0
              show AIf _ _ _
              refine ⟨fun _ => ?_, fun hx => absurd ⟨by decide, trivial⟩ hx⟩
              show ACall _ _ _ _ _ _
              refine call_ret (rSame_spec (l.set_ c (l.at_ c ++ a.take 0)) l).uz rfl ?_
              have e0 : l.set_ c (l.at_ c ++ a.take 0) = l := by rw [List.take_zero, List.append_nil, set_same hc]
              rw [e0, decide_eq_true rfl]
              show ARet _ _ _
              exact ret_bo (y := true) rfl ⟨rfl, rfl⟩
  · have h1 : ¬ (cond (cond (cond (!true) true (decide (c < 0))) true (decide (c > 2))) true (decide ((a.length : Int) > 20)) = false ∧ True) := h1
    show AOb (cond (cond (cond (!true) true (decide (c < 0))) true (decide (c > 2))) true (decide ((a.length : Int) > 20)) = true) _
    refine ⟨by simp at h1 ⊢; omega, ?_⟩
    show ABr true _ _
    refine ⟨fun _ => ?_, fun hx => absurd hx (by decide)⟩
    show ARet _ _ _
    exact ret_bo (y := true) rfl ⟨rfl, rfl⟩
end Go.Abs
