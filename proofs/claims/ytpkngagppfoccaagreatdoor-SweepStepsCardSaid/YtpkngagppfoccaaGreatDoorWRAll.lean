/- Walks: the law ListsAll. -/
import Derived.Test.YtpkngagppfoccaaGreatDoorWPdq
import Derived.Test.YtpkngagppfoccaaGreatDoorWLists1
set_option linter.all false
set_option linter.unusedVariables false
set_option linter.unusedSimpArgs false
namespace Go.Abs
open Go.Proofs Go.Proofs.YtpkngagppfoccaaGreatDoor
set_option maxRecDepth 8000

theorem Apart_spec (L : List Lists) (h : (flats L).length ≤ most) : Spec X 52 [] [.c (.d (.sl .lists L))] (Ret [] (.bo (decide (flats L).Nodup))) :=
  Apart_of L h (Sort_spec (flats L))

theorem take_snoc (l : List Int) (k : Nat) (h : k < l.length) : l.take (k + 1) = l.take k ++ [at0 l k] := by
  rw [List.take_add_one, List.getElem?_eq_getElem h]
  unfold at0
  rw [List.getD_eq_getElem?_getD, List.getElem?_eq_getElem h]
  rfl

set_option maxHeartbeats 1000000 in
theorem rAll_spec (L : List Lists) (h : (flats L).length ≤ most) : Spec X 101 [] [.c (.d (.sl .lists L))] (Ret [(0, .data .int (flats L))] (.c (.own 0))) := by
  refine spec_go X_ok Tryz.f101 (by kernel_rfl) (by kernel_rfl) (by kernel_rfl) fun hb _ => ⟨rfl, ?_⟩
  have hmax : L.length ≤ maxN := (hb (.c (.d (.sl .lists L))) (by simp)).1
  have hmost : most ≤ maxN := by decide
  show ∃ n, _
  refine ⟨0, ALoop.inv (ι := {i : Nat // i ≤ L.length}) (fun i => ⟨[(0, .c (.d (.sl .lists L))), (3, .c (.own 1)), (4, .int i.1)], [(1, .data .int (flats (L.take i.1)))], 64⟩) (fun i => L.length - i.1) ⟨0, Nat.zero_le _⟩ ?_ ?_⟩
  · exact ⟨[], .cons _ _ _ .same (.cons _ _ _ (.c _ _ (.nilown 1 .int rfl rfl)) (.cons _ _ _ .same .nil)), .new 1 .int _ rfl .nil, rfl⟩
  · rintro ⟨i, hi⟩
    show ABr (decide ((i : Int) < (L.length : Int))) _ _
    refine ⟨fun h2 => ?_, fun h2 => ?_⟩
    · have hlt : i < L.length := by simpa using h2
      have hstep := flats_take L i hlt
      have hle := flats_le L (i + 1)
      have hlen : (flats (L.take (i + 1))).length = (flats (L.take i)).length + (L.getD i default).flat.length := by rw [hstep, List.length_append]
      have hfl : (L.getD i default).flat.length = (L.getD i default).l0.length + (L.getD i default).l1.length + (L.getD i default).l2.length := by simp [Lists.flat]; omega
      generalize hG : flats (L.take i) = G at *
      have hwi := wrapP (i := i) (by omega)
      show ∃ n, _
      refine ⟨4, .next ?_⟩
      show ABr _ _ _
      refine ⟨fun _ => ?_, fun hx => absurd hx (by decide)⟩
      show ∃ n, _
      refine ⟨0, ALoop.inv (ι := {k : Nat // k ≤ (L.getD i default).l0.length}) (fun k => ⟨[(0, .c (.d (.sl .lists L))), (3, .c (.own 1)), (4, .int i), (5, .int 0), (6, .int k.1)], [(1, .data .int (G ++ (L.getD i default).l0.take k.1))], 64⟩) (fun k => (L.getD i default).l0.length - k.1) ⟨0, Nat.zero_le _⟩ ?_ ?_⟩
      · exact ⟨[(1, 1)], .cons _ _ _ .same (.cons _ _ _ (.c _ _ (.own _ _ rfl)) (.cons _ _ _ .same (.cons _ _ _ .same (.cons _ _ _ .same .nil)))), .old 1 1 _ _ _ rfl rfl (.data_eq (by rw [List.take_zero, List.append_nil])) .nil, rfl⟩
      · rintro ⟨k, hk⟩
        have hk : k ≤ (L.getD i default).l0.length := hk
        show AOb ((0 : Int) ≤ (i : Int) ∧ (i : Int) < (L.length : Int)) _
        refine ⟨by omega, ?_⟩
        show AOb _ _
        refine ⟨by decide, ?_⟩
        show ABr (decide ((k : Int) < ((L.getD i default).l0.length : Int))) _ _
        refine ⟨fun h3 => ?_, fun h3 => ?_⟩
        · have hkl : k < (L.getD i default).l0.length := Int.ofNat_lt.1 (of_decide_eq_true h3)
          show AOb ((0 : Int) ≤ (i : Int) ∧ (i : Int) < (L.length : Int)) _
          refine ⟨by omega, ?_⟩
          show AOb _ _
          refine ⟨by decide, ?_⟩
          show AOb ((0 : Int) ≤ (k : Int) ∧ (k : Int) < ((L.getD i default).l0.length : Int)) _
          refine ⟨by omega, ?_⟩
          show AOb ((G ++ (L.getD i default).l0.take k).length + 1 ≤ most) _
          refine ⟨by simp only [List.length_append, List.length_take]; omega, ?_⟩
          have e9 : (G ++ (L.getD i default).l0.take k) ++ [at0 (L.getD i default).l0 k] = G ++ (L.getD i default).l0.take (k + 1) := by rw [take_snoc _ _ hkl, List.append_assoc]
          show ARound _ _ _ _
          exact ⟨⟨k + 1, hkl⟩, Nat.sub_lt_sub_left hkl (Nat.lt_succ_self k), [(_, 1)], .cons _ _ _ .same (.cons _ _ _ (.c _ _ (.own1 _ _)) (.cons _ _ _ .same (.cons _ _ _ .same (.cons _ _ _ (.int_eq (wrapP (i := k) (by omega))) .nil)))), .old 1 _ _ _ _ rfl rfl (.data_eq e9) .nil, rfl⟩
        · have hke : k = (L.getD i default).l0.length := by have := of_decide_eq_false h3; omega
          subst hke
          have t0 : G ++ (L.getD i default).l0.take (L.getD i default).l0.length = G ++ (L.getD i default).l0 := by rw [List.take_length]
          show ALoop _ _ _ _
          refine .next ?_
          show ABr _ _ _
          refine ⟨fun _ => ?_, fun hx => absurd hx (by decide)⟩
          show ∃ n, _
          refine ⟨0, ALoop.inv (ι := {k : Nat // k ≤ (L.getD i default).l1.length}) (fun k => ⟨[(0, .c (.d (.sl .lists L))), (3, .c (.own 1)), (4, .int i), (5, .int 1), (6, .int k.1)], [(1, .data .int (G ++ (L.getD i default).l0 ++ (L.getD i default).l1.take k.1))], 64⟩) (fun k => (L.getD i default).l1.length - k.1) ⟨0, Nat.zero_le _⟩ ?_ ?_⟩
          · exact ⟨[(1, 1)], .cons _ _ _ .same (.cons _ _ _ (.c _ _ (.own _ _ rfl)) (.cons _ _ _ .same (.cons _ _ _ .same (.cons _ _ _ .same .nil)))), .old 1 1 _ _ _ rfl rfl (.data_eq (t0.trans (by rw [List.take_zero, List.append_nil]))) .nil, rfl⟩
          · rintro ⟨k, hk⟩
            have hk : k ≤ (L.getD i default).l1.length := hk
            show AOb ((0 : Int) ≤ (i : Int) ∧ (i : Int) < (L.length : Int)) _
            refine ⟨by omega, ?_⟩
            show AOb _ _
            refine ⟨by decide, ?_⟩
            show ABr (decide ((k : Int) < ((L.getD i default).l1.length : Int))) _ _
            refine ⟨fun h3 => ?_, fun h3 => ?_⟩
            · have hkl : k < (L.getD i default).l1.length := Int.ofNat_lt.1 (of_decide_eq_true h3)
              show AOb ((0 : Int) ≤ (i : Int) ∧ (i : Int) < (L.length : Int)) _
              refine ⟨by omega, ?_⟩
              show AOb _ _
              refine ⟨by decide, ?_⟩
              show AOb ((0 : Int) ≤ (k : Int) ∧ (k : Int) < ((L.getD i default).l1.length : Int)) _
              refine ⟨by omega, ?_⟩
              show AOb ((G ++ (L.getD i default).l0 ++ (L.getD i default).l1.take k).length + 1 ≤ most) _
              refine ⟨by simp only [List.length_append, List.length_take]; omega, ?_⟩
              have e9 : (G ++ (L.getD i default).l0 ++ (L.getD i default).l1.take k) ++ [at0 (L.getD i default).l1 k] = G ++ (L.getD i default).l0 ++ (L.getD i default).l1.take (k + 1) := by rw [take_snoc _ _ hkl, List.append_assoc]
              show ARound _ _ _ _
              exact ⟨⟨k + 1, hkl⟩, Nat.sub_lt_sub_left hkl (Nat.lt_succ_self k), [(_, 1)], .cons _ _ _ .same (.cons _ _ _ (.c _ _ (.own1 _ _)) (.cons _ _ _ .same (.cons _ _ _ .same (.cons _ _ _ (.int_eq (wrapP (i := k) (by omega))) .nil)))), .old 1 _ _ _ _ rfl rfl (.data_eq e9) .nil, rfl⟩
            · have hke : k = (L.getD i default).l1.length := by have := of_decide_eq_false h3; omega
              subst hke
              have t1 : G ++ (L.getD i default).l0 ++ (L.getD i default).l1.take (L.getD i default).l1.length = G ++ (L.getD i default).l0 ++ (L.getD i default).l1 := by rw [List.take_length]
              show ALoop _ _ _ _
              refine .next ?_
              show ABr _ _ _
              refine ⟨fun _ => ?_, fun hx => absurd hx (by decide)⟩
              show ∃ n, _
              refine ⟨0, ALoop.inv (ι := {k : Nat // k ≤ (L.getD i default).l2.length}) (fun k => ⟨[(0, .c (.d (.sl .lists L))), (3, .c (.own 1)), (4, .int i), (5, .int 2), (6, .int k.1)], [(1, .data .int (G ++ (L.getD i default).l0 ++ (L.getD i default).l1 ++ (L.getD i default).l2.take k.1))], 64⟩) (fun k => (L.getD i default).l2.length - k.1) ⟨0, Nat.zero_le _⟩ ?_ ?_⟩
              · exact ⟨[(1, 1)], .cons _ _ _ .same (.cons _ _ _ (.c _ _ (.own _ _ rfl)) (.cons _ _ _ .same (.cons _ _ _ .same (.cons _ _ _ .same .nil)))), .old 1 1 _ _ _ rfl rfl (.data_eq (t1.trans (by rw [List.take_zero, List.append_nil]))) .nil, rfl⟩
              · rintro ⟨k, hk⟩
                have hk : k ≤ (L.getD i default).l2.length := hk
                show AOb ((0 : Int) ≤ (i : Int) ∧ (i : Int) < (L.length : Int)) _
                refine ⟨by omega, ?_⟩
                show AOb _ _
                refine ⟨by decide, ?_⟩
                show ABr (decide ((k : Int) < ((L.getD i default).l2.length : Int))) _ _
                refine ⟨fun h3 => ?_, fun h3 => ?_⟩
                · have hkl : k < (L.getD i default).l2.length := Int.ofNat_lt.1 (of_decide_eq_true h3)
                  show AOb ((0 : Int) ≤ (i : Int) ∧ (i : Int) < (L.length : Int)) _
                  refine ⟨by omega, ?_⟩
                  show AOb _ _
                  refine ⟨by decide, ?_⟩
                  show AOb ((0 : Int) ≤ (k : Int) ∧ (k : Int) < ((L.getD i default).l2.length : Int)) _
                  refine ⟨by omega, ?_⟩
                  show AOb ((G ++ (L.getD i default).l0 ++ (L.getD i default).l1 ++ (L.getD i default).l2.take k).length + 1 ≤ most) _
                  refine ⟨by simp only [List.length_append, List.length_take]; omega, ?_⟩
                  have e9 : (G ++ (L.getD i default).l0 ++ (L.getD i default).l1 ++ (L.getD i default).l2.take k) ++ [at0 (L.getD i default).l2 k] = G ++ (L.getD i default).l0 ++ (L.getD i default).l1 ++ (L.getD i default).l2.take (k + 1) := by rw [take_snoc _ _ hkl, List.append_assoc]
                  show ARound _ _ _ _
                  exact ⟨⟨k + 1, hkl⟩, Nat.sub_lt_sub_left hkl (Nat.lt_succ_self k), [(_, 1)], .cons _ _ _ .same (.cons _ _ _ (.c _ _ (.own1 _ _)) (.cons _ _ _ .same (.cons _ _ _ .same (.cons _ _ _ (.int_eq (wrapP (i := k) (by omega))) .nil)))), .old 1 _ _ _ _ rfl rfl (.data_eq e9) .nil, rfl⟩
                · have hke : k = (L.getD i default).l2.length := by have := of_decide_eq_false h3; omega
                  subst hke
                  have t2 : G ++ (L.getD i default).l0 ++ (L.getD i default).l1 ++ (L.getD i default).l2.take (L.getD i default).l2.length = G ++ (L.getD i default).l0 ++ (L.getD i default).l1 ++ (L.getD i default).l2 := by rw [List.take_length]
                  show ALoop _ _ _ _
                  refine .next ?_
                  show ABr _ _ _
                  refine ⟨fun hx => absurd hx (by decide), fun _ => ?_⟩
                  show ARound _ _ _ _
                  exact ⟨⟨i + 1, hlt⟩, Nat.sub_lt_sub_left hlt (Nat.lt_succ_self i), [(1, 1)], .cons _ _ _ .same (.cons _ _ _ (.c _ _ (.own _ _ rfl)) (.cons _ _ _ (.int_eq hwi) .nil)), .old 1 _ _ _ _ rfl rfl (.data_eq (t2.trans (by rw [hstep]; simp only [Lists.flat, List.append_assoc]))) .nil, rfl⟩
    · have hge : i = L.length := by simp at h2; omega
      show ARet _ _ _
      refine ⟨[(1, 0)], [(0, .data .int (flats L))], [.c (.own 0)], .cons _ _ _ _ (.c _ _ (.own _ _ rfl)) .nil, .old 0 1 _ _ _ rfl rfl (.data_eq ?_) .nil, rfl, rfl, rfl⟩
      show flats (L.take i) = flats L
      rw [hge, List.take_length]

theorem take_nodup {l : List Int} {i : Nat} (h : i < l.length) : (l.take (i + 1)).Nodup ↔ (l.take i).Nodup ∧ ∀ j, j < i → at0 l i ≠ at0 l j := by
  rw [take_snoc l i h, List.nodup_append]
  constructor
  · rintro ⟨h1, _, h2⟩
    refine ⟨h1, fun j hj e => ?_⟩
    refine h2 (at0 l j) ?_ (at0 l i) (by simp) e.symm
    rw [at0_get (by omega)]
    exact List.mem_take_iff_getElem.2 ⟨j, by omega, rfl⟩
  · rintro ⟨h1, h2⟩
    refine ⟨h1, by simp, fun x hx y hy e => ?_⟩
    obtain ⟨j, hj, rfl⟩ := List.mem_take_iff_getElem.1 hx
    have hy : y = at0 l i := by simpa using hy
    refine h2 j (by omega) ?_
    rw [at0_get (i := j) (by omega), e, hy]

set_option maxHeartbeats 1000000 in
theorem rApart_spec (L : List Lists) (h : (flats L).length ≤ most) : Spec X 71 [] [.c (.d (.sl .lists L))] (Ret [] (.bo (decide (flats L).Nodup))) := by
  refine spec_go X_ok Tryz.f71 (by kernel_rfl) (by kernel_rfl) (by kernel_rfl) fun hb _ => ⟨rfl, ?_⟩
  have hmost : most ≤ maxN := by decide
  show ACall _ _ _ _ _ _
  refine .mk _ (rAll_spec L h) ?_
  rintro H r ⟨rfl, rfl⟩ _ _
  refine ⟨.inl rfl, ?_⟩
  generalize flats L = F at *
  show ∃ n, _
  refine ⟨0, ALoop.inv (ι := {i : Nat // i ≤ F.length ∧ (F.take i).Nodup}) (fun i => ⟨[(3, .c (.own 1)), (4, .int i.1)], [(1, .data .int F)], 64⟩) (fun i => F.length - i.1) ⟨0, Nat.zero_le _, by simp⟩ ?_ ?_⟩
  · exact ⟨[(_, 1)], .cons _ _ _ (.c _ _ (.own1 _ _)) (.cons _ _ _ .same .nil), .old 1 _ _ _ _ rfl rfl (.data_eq rfl) .nil, rfl⟩
  · rintro ⟨i, hi, hn⟩
    have hi : i ≤ F.length := hi
    have hn : (F.take i).Nodup := hn
    show ABr (decide ((i : Int) < (F.length : Int))) _ _
    refine ⟨fun h2 => ?_, fun h2 => ?_⟩
    · have hlt : i < F.length := Int.ofNat_lt.1 (of_decide_eq_true h2)
      have hwi := wrapP (i := i) (by omega)
      show ∃ n, _
      refine ⟨0, ALoop.inv (ι := {j : Nat // j ≤ i ∧ ∀ k, k < j → at0 F i ≠ at0 F k}) (fun j => ⟨[(3, .c (.own 1)), (4, .int i), (5, .int j.1)], [(1, .data .int F)], 64⟩) (fun j => i - j.1) ⟨0, Nat.zero_le _, fun k hk => absurd hk (by omega)⟩ ?_ ?_⟩
      · exact ⟨[(1, 1)], .cons _ _ _ (.c _ _ (.own _ _ rfl)) (.cons _ _ _ .same (.cons _ _ _ .same .nil)), .old 1 1 _ _ _ rfl rfl (.data_eq rfl) .nil, rfl⟩
      · rintro ⟨j, hj, ha⟩
        have hj : j ≤ i := hj
        have hwj := wrapP (i := j) (by omega)
        show ABr (decide ((j : Int) < (i : Int))) _ _
        refine ⟨fun h3 => ?_, fun h3 => ?_⟩
        · have hlj : j < i := Int.ofNat_lt.1 (of_decide_eq_true h3)
          show AOb ((0 : Int) ≤ (i : Int) ∧ (i : Int) < (F.length : Int)) _
          refine ⟨by omega, ?_⟩
          show AOb ((i : Int).toNat < F.length) _
          refine ⟨by omega, ?_⟩
          show AOb ((0 : Int) ≤ (j : Int) ∧ (j : Int) < (F.length : Int)) _
          refine ⟨by omega, ?_⟩
          show AOb ((j : Int).toNat < F.length) _
          refine ⟨by omega, ?_⟩
          show ABr (decide (at0 F i = at0 F j)) _ _
          refine ⟨fun h4 => ?_, fun h4 => ?_⟩
          · show ARet _ _ _
            refine ret_bo ?_ ⟨rfl, rfl⟩
            rw [eq_comm, decide_eq_false_iff_not]
            intro hnd
            have : (F.take (i + 1)).Nodup := (List.take_sublist (i + 1) F).nodup hnd
            exact ((take_nodup hlt).1 this).2 j hlj (of_decide_eq_true h4)
          · show ARound _ _ _ _
            refine ⟨⟨j + 1, hlj, fun k hk => ?_⟩, Nat.sub_lt_sub_left hlj (Nat.lt_succ_self j), [(1, 1)], .cons _ _ _ (.c _ _ (.own _ _ rfl)) (.cons _ _ _ .same (.cons _ _ _ (.int_eq hwj) .nil)), .old 1 1 _ _ _ rfl rfl (.data_eq rfl) .nil, rfl⟩
            by_cases hkj : k = j
            · subst hkj; exact of_decide_eq_false h4
            · exact ha k (by have : k < j + 1 := hk; omega)
        · have hje : j = i := by have := of_decide_eq_false h3; omega
          subst hje
          show ARound _ _ _ _
          exact ⟨⟨j + 1, hlt, (take_nodup hlt).2 ⟨hn, ha⟩⟩, Nat.sub_lt_sub_left hlt (Nat.lt_succ_self j), [(1, 1)], .cons _ _ _ (.c _ _ (.own _ _ rfl)) (.cons _ _ _ (.int_eq hwi) .nil), .old 1 1 _ _ _ rfl rfl (.data_eq rfl) .nil, rfl⟩
    · have hge : i = F.length := by have := of_decide_eq_false h2; omega
      show ARet _ _ _
      refine ret_bo ?_ ⟨rfl, rfl⟩
      rw [hge, List.take_length] at hn
      rw [eq_comm, decide_eq_true_iff]
      exact hn

end Go.Abs
