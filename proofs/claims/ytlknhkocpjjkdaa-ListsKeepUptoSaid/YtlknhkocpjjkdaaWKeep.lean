/- Walks: the law ListsKeep. -/
import Derived.Test.YtlknhkocpjjkdaaWRAll
import Derived.Test.YtlknhkocpjjkdaaWPushes
set_option linter.all false
set_option linter.unusedVariables false
set_option linter.unusedSimpArgs false
namespace Go.Abs
open Go.Proofs Go.Proofs.Ytlknhkocpjjkdaa
set_option maxRecDepth 8000

theorem mem_at0 {l : List Int} {x : Int} : x ∈ l ↔ ∃ j, j < l.length ∧ at0 l j = x := by
  rw [List.mem_iff_getElem]
  constructor
  · rintro ⟨j, hj, e⟩; exact ⟨j, hj, by rw [at0_get hj, e]⟩
  · rintro ⟨j, hj, e⟩; exact ⟨j, hj, by rw [← at0_get hj, e]⟩

theorem same6_spec (a b : List Int) : Spec X 39 [] [.c (.d (.sl .int a)), .c (.d (.sl .int b))] (Ret [] (.bo (decide (a.length = b.length ∧ ∀ x ∈ a, x ∈ b)))) := by
  refine spec_go X_ok Try.f39 (by kernel_rfl) (by kernel_rfl) (by kernel_rfl) fun hb _ => ⟨rfl, ?_⟩
  have hma : a.length ≤ maxN := (hb (.c (.d (.sl .int a))) (by simp)).1
  have hmb : b.length ≤ maxN := (hb (.c (.d (.sl .int b))) (by simp)).1
  show ABr (!decide ((a.length : Int) = (b.length : Int))) _ _
  refine ⟨fun h1 => ?_, fun h1 => ?_⟩
  · show ARet _ _ _
    refine ret_bo ?_ ⟨rfl, rfl⟩
    rw [eq_comm, decide_eq_false_iff_not]
    intro e
    rw [e.1] at h1
    simp at h1
  · have hlen : a.length = b.length := by simp at h1; omega
    show ∃ n, _
    refine ⟨0, ALoop.inv (ι := {i : Nat // i ≤ a.length ∧ ∀ j, j < i → at0 a j ∈ b}) (fun i => ⟨[(0, .c (.d (.sl .int a))), (1, .c (.d (.sl .int b))), (5, .int i.1)], [], 64⟩) (fun i => a.length - i.1) ⟨0, Nat.zero_le _, fun j hj => absurd hj (by omega)⟩ ?_ ?_⟩
    · exact ⟨[], .cons _ _ _ .same (.cons _ _ _ .same (.cons _ _ _ .same .nil)), .nil, rfl⟩
    · rintro ⟨i, hi, hin⟩
      have hi : i ≤ a.length := hi
      have hin : ∀ j, j < i → at0 a j ∈ b := hin
      show ABr (decide ((i : Int) < (a.length : Int))) _ _
      refine ⟨fun h2 => ?_, fun h2 => ?_⟩
      · have hlt : i < a.length := Int.ofNat_lt.1 (of_decide_eq_true h2)
        have hwi := wrapP (i := i) (by omega)
        show ∃ n, _
        refine ⟨0, ALoop.inv (ι := {p : Nat × Bool // p.1 ≤ b.length ∧ (p.2 = true ↔ ∃ j, j < p.1 ∧ at0 b j = at0 a i)}) (fun p => ⟨[(0, .c (.d (.sl .int a))), (1, .c (.d (.sl .int b))), (5, .int i), (6, .bo p.1.2), (7, .int p.1.1)], [], 64⟩) (fun p => b.length - p.1.1) ⟨(0, false), Nat.zero_le _, by simp⟩ ?_ ?_⟩
        · exact ⟨[], .cons _ _ _ .same (.cons _ _ _ .same (.cons _ _ _ .same (.cons _ _ _ .same (.cons _ _ _ .same .nil)))), .nil, rfl⟩
        · rintro ⟨⟨k, x⟩, hk, hx⟩
          have hk : k ≤ b.length := hk
          have hx : x = true ↔ ∃ j, j < k ∧ at0 b j = at0 a i := hx
          have hwk := wrapP (i := k) (by omega)
          have hstep : (∃ j, j < k + 1 ∧ at0 b j = at0 a i) ↔ (∃ j, j < k ∧ at0 b j = at0 a i) ∨ at0 b k = at0 a i := by
            constructor
            · rintro ⟨j, h1, h2⟩
              by_cases hjk : j = k
              · subst hjk; exact .inr h2
              · exact .inl ⟨j, by omega, h2⟩
            · rintro (⟨j, h1, h2⟩ | h)
              · exact ⟨j, by omega, h2⟩
              · exact ⟨k, by omega, h⟩
          show ABr (decide ((k : Int) < (b.length : Int))) _ _
          refine ⟨fun h3 => ?_, fun h3 => ?_⟩
          · have hkl : k < b.length := Int.ofNat_lt.1 (of_decide_eq_true h3)
            show ABr _ _ _
            refine ⟨fun h4 => ?_, fun h4 => ?_⟩
            · have h4 : x = true := h4
              show ARound _ _ _ _
              exact ⟨⟨(k + 1, true), hkl, by rw [hstep]; simp [hx.1 h4]⟩, Nat.sub_lt_sub_left hkl (Nat.lt_succ_self k), [], .cons _ _ _ .same (.cons _ _ _ .same (.cons _ _ _ .same (.cons _ _ _ .same (.cons _ _ _ (.int_eq hwk) .nil)))), .nil, rfl⟩
            · have h4 : x = false := h4
              show AOb ((0 : Int) ≤ (k : Int) ∧ (k : Int) < (b.length : Int)) _
              refine ⟨by omega, ?_⟩
              show AOb ((0 : Int) ≤ (i : Int) ∧ (i : Int) < (a.length : Int)) _
              refine ⟨by omega, ?_⟩
              show ARound _ _ _ _
              refine ⟨⟨(k + 1, decide (at0 b k = at0 a i)), hkl, ?_⟩, Nat.sub_lt_sub_left hkl (Nat.lt_succ_self k), [], .cons _ _ _ .same (.cons _ _ _ .same (.cons _ _ _ .same (.cons _ _ _ .same (.cons _ _ _ (.int_eq hwk) .nil)))), .nil, rfl⟩
              show decide (at0 b k = at0 a i) = true ↔ _
              have hno : ¬ ∃ j, j < k ∧ at0 b j = at0 a i := fun e => by have := hx.2 e; rw [h4] at this; cases this
              rw [hstep, decide_eq_true_iff]
              exact ⟨.inr, fun e => e.resolve_left hno⟩
          · have hke : k = b.length := by have := of_decide_eq_false h3; omega
            subst hke
            have hmem : x = true ↔ at0 a i ∈ b := by rw [hx, mem_at0]
            show ABr (!x) _ _
            refine ⟨fun h4 => ?_, fun h4 => ?_⟩
            · show ARet _ _ _
              refine ret_bo ?_ ⟨rfl, rfl⟩
              rw [eq_comm, decide_eq_false_iff_not]
              intro e
              have h5 := hmem.2 (e.2 _ (mem_at0.2 ⟨i, hlt, rfl⟩))
              rw [h5] at h4
              cases h4
            · have h5 : x = true := by cases x <;> simp_all
              show ARound _ _ _ _
              refine ⟨⟨i + 1, hlt, fun j hj => ?_⟩, Nat.sub_lt_sub_left hlt (Nat.lt_succ_self i), [], .cons _ _ _ .same (.cons _ _ _ .same (.cons _ _ _ (.int_eq hwi) .nil)), .nil, rfl⟩
              by_cases hji : j = i
              · subst hji; exact hmem.1 h5
              · exact hin j (by have : j < i + 1 := hj; omega)
      · show ARet _ _ _
        refine ret_bo ?_ ⟨rfl, rfl⟩
        have hge : i = a.length := by have := of_decide_eq_false h2; omega
        rw [eq_comm, decide_eq_true_iff]
        refine ⟨hlen, fun x hx => ?_⟩
        obtain ⟨j, hj, rfl⟩ := mem_at0.1 hx
        exact hin j (by omega)
theorem flats_two' (l m : Lists) : flats [l, m] = l.flat ++ m.flat := by simp [flats]

theorem flat_set {l : Lists} {c : Int} (h : 0 ≤ c ∧ c ≤ 2) (x : List Int) : ∃ u v, l.flat = u ++ l.at_ c ++ v ∧ (l.set_ c x).flat = u ++ x ++ v := by
  have hc : c = 0 ∨ c = 1 ∨ c = 2 := by omega
  rcases hc with rfl | rfl | rfl
  · exact ⟨[], l.l1 ++ l.l2, by simp [Lists.flat, Lists.at_], by simp [Lists.flat, Lists.set_]⟩
  · exact ⟨l.l0, l.l2, by simp [Lists.flat, Lists.at_], by simp [Lists.flat, Lists.set_]⟩
  · exact ⟨l.l0 ++ l.l1, [], by simp [Lists.flat, Lists.at_], by simp [Lists.flat, Lists.set_]⟩

theorem flat_set_perm {l : Lists} {c : Int} (h : 0 ≤ c ∧ c ≤ 2) (x : List Int) : ∃ u, l.flat.Perm (l.at_ c ++ u) ∧ (l.set_ c x).flat.Perm (x ++ u) := by
  obtain ⟨u, v, h1, h2⟩ := flat_set h x (l := l)
  refine ⟨u ++ v, ?_, ?_⟩
  · rw [h1, ← List.append_assoc]; exact List.perm_append_comm.append_right v
  · rw [h2, ← List.append_assoc]; exact List.perm_append_comm.append_right v

theorem Keep.moved (l m : Lists) (c : Int) (h : 0 ≤ c ∧ c ≤ 2) (k : Nat) : (flats [l, m]).Perm (flats [l.set_ c ((l.at_ c).take k), m.set_ c (m.at_ c ++ ((l.at_ c).drop k).reverse)]) := by
  rw [flats_two', flats_two']
  obtain ⟨u, h1, h2⟩ := flat_set_perm h ((l.at_ c).take k) (l := l)
  obtain ⟨v, h3, h4⟩ := flat_set_perm h (m.at_ c ++ ((l.at_ c).drop k).reverse) (l := m)
  refine List.perm_iff_count.2 fun z => ?_
  have e : List.count z (l.at_ c) = List.count z ((l.at_ c).take k) + List.count z ((l.at_ c).drop k) := by rw [← List.count_append, List.take_append_drop]
  have g1 := h1.count_eq z
  have g2 := h2.count_eq z
  have g3 := h3.count_eq z
  have g4 := h4.count_eq z
  have g5 := (List.reverse_perm ((l.at_ c).drop k)).count_eq z
  simp only [List.count_append] at g1 g2 g3 g4 ⊢
  omega

theorem Keep.parted (l : Lists) (c : Int) (h : 0 ≤ c ∧ c ≤ 2) (low high : Int) : (flats [l]).Perm (flats [l.set_ c (stayOf (l.at_ c) low high (l.at_ c).length)] ++ outOf (l.at_ c) low high (l.at_ c).length) := by
  rw [flats_one, flats_one]
  obtain ⟨u, h1, h2⟩ := flat_set_perm h (stayOf (l.at_ c) low high (l.at_ c).length) (l := l)
  refine h1.trans (.trans ?_ (h2.append_right _).symm)
  unfold stayOf outOf
  rw [List.take_length]
  have h3 := List.filter_append_perm (inP low high) (l.at_ c)
  refine List.perm_iff_count.2 fun z => ?_
  have g3 := h3.count_eq z
  simp only [List.count_append] at g3 ⊢
  omega

theorem Keep.same {a b : List Int} (h : a.Perm b) : decide (a.length = b.length ∧ ∀ x ∈ a, x ∈ b) = true :=
  decide_eq_true ⟨h.length_eq, fun _ hx => h.mem_iff.1 hx⟩

set_option maxHeartbeats 4000000 in
theorem ListsKeep_spec (l : Lists) (hl : l.l0.length ≤ 1048576 ∧ l.l1.length ≤ 1048576 ∧ l.l2.length ≤ 1048576) (m : Lists) (hm : m.l0.length ≤ 1048576 ∧ m.l1.length ≤ 1048576 ∧ m.l2.length ≤ 1048576) (c : Int) (n : Int) (hn : (Lit.int .i64 n).wf = true) (a low high : Int) : Spec X 11 [] [l.tv, m.tv, .int c, .int n, .int a, .int low, .int high] (Ret [] (.bo true)) := by
  refine Spec.fz (spec_go Xf_ok Try.f11 (by kernel_rfl) (by kernel_rfl) (by kernel_rfl) fun _ _ => ⟨rfl, ?_⟩)
  have hfl := flat_len l
  have hfm := flat_len m
  have hnn := (wf_le hn).2
  show ACall _ _ _ _ _ _
  refine call_ret awake6_spec.uz rfl ?_
  show AIf _ _ _
  refine ⟨fun h1 => ?_, fun h1 => ?_⟩
  · have h1 : cond (cond (cond (!true) true (decide (c < 0))) true (decide (c > 2))) true (decide (n < 0)) = false ∧ True := h1
    simp at h1
    show ACall _ _ _ _ _ _
    refine .mk _ (All_spec [l, m] (by rw [flats_two', List.length_append]; unfold most; omega)).uz ?_
    rintro H r ⟨rfl, rfl⟩ _ _
    refine ⟨.inl rfl, ?_⟩
    show AIf _ _ _
    refine ⟨fun h2 => ?_, fun h2 => ?_⟩
    · have h2 : decide (((flats [l, m]).length : Int) > 120) = false := h2.1
      have h2 : (flats [l, m]).length ≤ 120 := by have := of_decide_eq_false h2; omega
      show ACall _ _ _ _ _ _
      refine call_ret (Apart_spec [l, m] (by unfold most; omega)).uz rfl ?_
      show ABr (!decide (flats [l, m]).Nodup) _ _
      refine ⟨fun _ => ?_, fun h3 => ?_⟩
      · show ARet _ _ _
        exact ret_bo (y := true) rfl ⟨rfl, rfl⟩
      · rw [flats_two'] at h2 h3
        rw [List.length_append] at h2
        have hnd : (l.flat ++ m.flat).Nodup := by simpa using h3
        have hok : l.ok := by unfold Lists.ok most; omega
        have hok' : m.ok := by unfold Lists.ok most; omega
        have hc : 0 ≤ c ∧ c ≤ 2 := h1.1
        have hatl : (l.at_ c).length ≤ 120 := at_le (n := 120) (by omega) c
        have hatm : (m.at_ c).length ≤ 120 := at_le (n := 120) (by omega) c
        have mst : ∀ n, n ≤ 1000 → n ≤ most := fun n hn => by unfold most; omega
        show ACall _ _ _ _ _ _
        refine call_ret (Push_spec l c [a] hc hok (mst _ (by show _ + 1 ≤ 1000; omega))).uz rfl ?_
        have hlb : ((l.set_ c (l.at_ c ++ [a])).at_ c).length = (l.at_ c).length + 1 := by rw [set_at hc]; simp
        have hokb : (l.set_ c (l.at_ c ++ [a])).ok := set_ok hok (mst _ (by simp; omega))
        show ACall _ _ _ _ _ _
        refine call_ret (Pop_spec (l.set_ c (l.at_ c ++ [a])) c hc hokb (by rw [hlb]; omega)).uz rfl ?_
        have hback : (l.set_ c (l.at_ c ++ [a])).set_ c (((l.set_ c (l.at_ c ++ [a])).at_ c).take (((l.set_ c (l.at_ c ++ [a])).at_ c).length - 1)) = l := by
          rw [hlb, set_at hc, set_set hc, Nat.add_sub_cancel, List.take_left', set_same hc]
          rfl
        have hx : at0 ((l.set_ c (l.at_ c ++ [a])).at_ c) (((l.set_ c (l.at_ c ++ [a])).at_ c).length - 1) = a := by
          rw [hlb, set_at hc, at0_app, if_neg (by omega)]
          simp [at0]
        rw [hback, hx]
        show ACall _ _ _ _ _ _
        refine call_ret (rSame_spec l l).uz rfl ?_
        rw [decide_eq_true rfl]
        show ACall _ _ _ _ _ _
        refine call_ret (Move_spec l m c n hc h1.2 hnn hok hok' (mst _ (by omega))).uz rfl ?_
        show ACall _ _ _ _ _ _
        refine call_ret (Part_spec l c low high hc hok).uz rfl ?_
        have hol := outOf_len (l.at_ c) low high (l.at_ c).length
        show ∃ n, _
        refine ⟨0, ALoop.inv (ι := {i : Nat // i ≤ (outOf (l.at_ c) low high (l.at_ c).length).length}) (fun i => ⟨[(4, .int a), (5, .int low), (6, .int high), (7, .c (.ptr 0 0 0)), (8, .c (.ptr 1 0 0)), (17, .int 0), (19, .int a), (20, .int 0), (21, .bo true), (22, .c (.ptr 2 0 0)), (23, .c (.ptr 3 0 0)), (24, .int 0), (25, .c (.ptr 4 0 0)), (26, .c (.d (.sl .int (outOf (l.at_ c) low high (l.at_ c).length)))), (27, .int 0), (28, .int i.1)],
          [(0, .vars ((EK.enc .lists l).map .d)), (1, .vars ((EK.enc .lists m).map .d)), (2, .vars ((EK.enc .lists (l.set_ c ((l.at_ c).take (leftOf (l.at_ c).length n)))).map .d)), (3, .vars ((EK.enc .lists (m.set_ c (m.at_ c ++ ((l.at_ c).drop (leftOf (l.at_ c).length n)).reverse))).map .d)), (4, .vars ((EK.enc .lists (l.set_ c (stayOf (l.at_ c) low high (l.at_ c).length))).map .d))], 160⟩) (fun i => (outOf (l.at_ c) low high (l.at_ c).length).length - i.1) ⟨0, Nat.zero_le _⟩ ?_ ?_⟩
        · exact ⟨[(32, 0), (64, 1), (2240, 2), (2272, 3), (2688, 4)], .cons _ _ _ .same (.cons _ _ _ .same (.cons _ _ _ .same (.cons _ _ _ (.c _ _ (.ptr _ _ _ _ rfl)) (.cons _ _ _ (.c _ _ (.ptr _ _ _ _ rfl)) (.cons _ _ _ .same (.cons _ _ _ .same (.cons _ _ _ .same (.cons _ _ _ .same (.cons _ _ _ (.c _ _ (.ptr _ _ _ _ rfl)) (.cons _ _ _ (.c _ _ (.ptr _ _ _ _ rfl)) (.cons _ _ _ .same (.cons _ _ _ (.c _ _ (.ptr _ _ _ _ rfl)) (.cons _ _ _ .same (.cons _ _ _ .same (.cons _ _ _ .same .nil))))))))))))))),
            .old 0 32 _ _ _ rfl rfl (.vars _ _ (LeL_refl rfl)) (.old 1 64 _ _ _ rfl rfl (.vars _ _ (LeL_refl rfl)) (.old 2 2240 _ _ _ rfl rfl (.vars _ _ (LeL_refl rfl)) (.old 3 2272 _ _ _ rfl rfl (.vars _ _ (LeL_refl rfl)) (.old 4 2688 _ _ _ rfl rfl (.vars _ _ (LeL_refl rfl)) .nil)))), rfl⟩
        · rintro ⟨i, hi⟩
          show ABr (decide ((i : Int) < ((outOf (l.at_ c) low high (l.at_ c).length).length : Int))) _ _
          refine ⟨fun h4 => ?_, fun h4 => ?_⟩
          · have hlt : i < (outOf (l.at_ c) low high (l.at_ c).length).length := Int.ofNat_lt.1 (of_decide_eq_true h4)
            have hwi := wrapP (i := i) (by unfold maxN; omega)
            have hin : inP low high (at0 (outOf (l.at_ c) low high (l.at_ c).length) i) = true := by
              have hmem : at0 (outOf (l.at_ c) low high (l.at_ c).length) i ∈ outOf (l.at_ c) low high (l.at_ c).length := mem_at0.2 ⟨i, hlt, rfl⟩
              exact (List.mem_filter.1 hmem).2
            generalize hg : outOf (l.at_ c) low high (l.at_ c).length = s at *
            show AOb ((0 : Int) ≤ (i : Int) ∧ (i : Int) < (s.length : Int)) _
            refine ⟨by omega, ?_⟩
            show AOb (_ → (0 : Int) ≤ (i : Int) ∧ (i : Int) < (s.length : Int)) _
            refine ⟨fun _ => by omega, ?_⟩
            show ABr (bif decide (at0 s i < low) then true else decide (at0 s i ≥ high)) _ _
            refine ⟨fun h5 => ?_, fun _ => ?_⟩
            · exfalso
              unfold inP at hin
              simp at hin h5
              omega
            · show ARound _ _ _ _
              exact ⟨⟨i + 1, hlt⟩, Nat.sub_lt_sub_left hlt (Nat.lt_succ_self i), [(0, 0), (1, 1), (2, 2), (3, 3), (4, 4)], .cons _ _ _ .same (.cons _ _ _ .same (.cons _ _ _ .same (.cons _ _ _ (.c _ _ (.ptr _ _ _ _ rfl)) (.cons _ _ _ (.c _ _ (.ptr _ _ _ _ rfl)) (.cons _ _ _ .same (.cons _ _ _ .same (.cons _ _ _ .same (.cons _ _ _ .same (.cons _ _ _ (.c _ _ (.ptr _ _ _ _ rfl)) (.cons _ _ _ (.c _ _ (.ptr _ _ _ _ rfl)) (.cons _ _ _ .same (.cons _ _ _ (.c _ _ (.ptr _ _ _ _ rfl)) (.cons _ _ _ .same (.cons _ _ _ .same (.cons _ _ _ (.int_eq hwi) .nil))))))))))))))),
                .old 0 0 _ _ _ rfl rfl (.vars _ _ (LeL_refl rfl)) (.old 1 1 _ _ _ rfl rfl (.vars _ _ (LeL_refl rfl)) (.old 2 2 _ _ _ rfl rfl (.vars _ _ (LeL_refl rfl)) (.old 3 3 _ _ _ rfl rfl (.vars _ _ (LeL_refl rfl)) (.old 4 4 _ _ _ rfl rfl (.vars _ _ (LeL_refl rfl)) .nil)))), rfl⟩
          · have hbig : ∀ n, n ≤ 1000 → n ≤ most := mst
            have hmv := Keep.moved l m c hc (leftOf (l.at_ c).length n)
            have hpt := Keep.parted l c hc low high
            have hstl := stayOf_len (l.at_ c) low high (l.at_ c).length
            generalize hP : l.set_ c ((l.at_ c).take (leftOf (l.at_ c).length n)) = P at *
            generalize hQ : m.set_ c (m.at_ c ++ ((l.at_ c).drop (leftOf (l.at_ c).length n)).reverse) = Q at *
            generalize hR : l.set_ c (stayOf (l.at_ c) low high (l.at_ c).length) = R at *
            show ADCall _ _ _ _ _ _
            refine .mk [(0, .data .int (flats [l, m]))] (.c (.own 0)) (All_spec [l, m] (by rw [flats_two', List.length_append]; exact mst _ (by omega))).uz rfl ?_
            show ADCall _ _ _ _ _ _
            refine .mk [(0, .data .int (flats [P, Q]))] (.c (.own 0)) (All_spec [P, Q] (by rw [← hmv.length_eq, flats_two', List.length_append]; exact mst _ (by omega))).uz rfl ?_
            show ADCall _ _ _ _ _ _
            refine .mk [] _ (same6_spec (flats [l, m]) (flats [P, Q])).uz rfl ?_
            show ADCall _ _ _ _ _ _
            refine .mk [(0, .data .int (flats [l]))] (.c (.own 0)) (All_spec [l] (by rw [flats_one]; exact mst _ (by omega))).uz rfl ?_
            show ADCall _ _ _ _ _ _
            refine .mk [(0, .data .int (flats [R]))] (.c (.own 0)) (All_spec [R] (mst _ (by have := hpt.length_eq; rw [flats_one, List.length_append] at this; omega))).uz rfl ?_
            show AOb ((flats [R]).length + (outOf (l.at_ c) low high (l.at_ c).length).length ≤ most) _
            refine ⟨mst _ (by have := hpt.length_eq; rw [flats_one, List.length_append] at this; omega), ?_⟩
            show ADCall _ _ _ _ _ _
            refine .mk [] _ (same6_spec (flats [l]) (flats [R] ++ outOf (l.at_ c) low high (l.at_ c).length)).uz rfl ?_
            rw [Keep.same hmv, Keep.same hpt]
            show ARet _ _ _
            refine ret_bo (y := true) ?_ ⟨rfl, rfl⟩
            simp
    · have h2 : ¬ (decide (((flats [l, m]).length : Int) > 120) = false ∧ True) := h2
      show AOb (decide (((flats [l, m]).length : Int) > 120) = true) _
      refine ⟨by simpa using h2, ?_⟩
      show ABr true _ _
      refine ⟨fun _ => ?_, fun hx => absurd hx (by decide)⟩
      show ARet _ _ _
      exact ret_bo (y := true) rfl ⟨rfl, rfl⟩
  · have h1 : ¬ (cond (cond (cond (!true) true (decide (c < 0))) true (decide (c > 2))) true (decide (n < 0)) = false ∧ True) := h1
    show AOb (cond (cond (cond (!true) true (decide (c < 0))) true (decide (c > 2))) true (decide (n < 0)) = true) _
    refine ⟨by simp at h1 ⊢; omega, ?_⟩
    show AIf _ _ _
    refine ⟨fun h => absurd h.1 (by decide), fun _ => ?_⟩
    show AOb (true = true) _
    refine ⟨rfl, ?_⟩
    show ABr true _ _
    refine ⟨fun _ => ?_, fun hx => absurd hx (by decide)⟩
    show ARet _ _ _
    exact ret_bo (y := true) rfl ⟨rfl, rfl⟩
end Go.Abs
