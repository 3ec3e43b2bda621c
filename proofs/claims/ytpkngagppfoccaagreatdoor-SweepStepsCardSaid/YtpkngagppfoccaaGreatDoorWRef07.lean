/- Walks: the document's heaps: may be, whole, heads, objects. -/
import Derived.Test.YtpkngagppfoccaaGreatDoorWBegins
import Derived.Test.YtpkngagppfoccaaGreatDoorWHeap4
set_option linter.all false
set_option linter.unusedVariables false
set_option linter.unusedSimpArgs false
namespace Go.Abs
open Go.Proofs Go.Proofs.YtpkngagppfoccaaGreatDoor
set_option maxRecDepth 8000

theorem rwMay_spec (w : List Int) : Spec X 66 [] [.c (.d (.sl .int w))] (Ret [] (.bo (mayW w))) := by
  refine spec_go X_ok Tryz.f66 (by kernel_rfl) (by kernel_rfl) (by kernel_rfl) fun hb hH => ⟨rfl, ?_⟩
  have er := len_rem w.length 16
  show AOb _ _
  refine ⟨by intro _; decide, ?_⟩
  show ARet _ _ _
  refine ret_bo (x := bif (bif decide ((w.length : Int) ≥ 16) then decide ((w.length : Int) ≤ 1024) else false) then ((w.length : Int).tmod ((16 : Nat) : Int)) == 0 else false) ?_ ⟨rfl, rfl⟩
  rw [er]
  unfold mayW
  rw [Bool.eq_iff_iff]
  simp [Bool.cond_eq_ite]
  omega

theorem kind_at {g : Hp} {a : Int} (hr : roomAt g.pages a ≠ 0) : (pageAt g a).kind = 1 ∨ (pageAt g a).kind = 2 := by
  obtain ⟨_, i, hi⟩ := cellOf_mem (roomAt_pos hr)
  have hpg : pageAt g a = g.pages.getD i default := by
    unfold pageAt
    have := hi.div
    simp only at this
    rw [this]
    simp
  rw [hpg]
  rcases hi.kind with ⟨k1, _⟩ | ⟨k1, _⟩
  · exact .inl k1
  · exact .inr k1

theorem runE_cls {n : Int} (h : clsE n ≠ 0) : runE n ≠ 0 := by
  unfold runE
  rw [if_pos h]
  exact h

theorem rcell_spec (g : Hp) (a : Int) (hs : shapedH g = true) (hr : roomAt g.pages a ≠ 0) (hw : wordAt g a < 9223372036854775808) : Spec X 69 [] [g.tv, .int a] (Ret [] (.bo (cellB g a))) := by
  refine spec_go X_ok Tryz.f69 (by kernel_rfl) (by kernel_rfl) (by kernel_rfl) fun hb hH => ⟨rfl, ?_⟩
  obtain ⟨_, hmp, hsl, _, _, h64⟩ := shapedH_of hs
  obtain ⟨h1, h2⟩ := room_adr (h := g) hr
  have ew : IntKind.i64.wrap (a - 16) = a - 16 := wrap64 (by omega) (by omega)
  have e1 : tdv a 16 = a / 16 := tdv_eq (by omega) (by omega) (by omega)
  have e2 : IntKind.i64.wrap (tdv a 16 - 1) = a / 16 - 1 := by rw [e1]; exact wrap64 (by omega) (by omega)
  show AOb ((0 : Int) ≤ IntKind.i64.wrap (a - 16) ∧ IntKind.i64.wrap (a - 16) < (g.w.length : Int)) _
  refine ⟨by rw [ew]; omega, ?_⟩
  show ACall _ _ [.int (g.w.getD (IntKind.i64.wrap (a - 16)).toNat default)] _ _ _
  rw [ew]
  show ACall _ _ [.int (wordAt g a)] _ _ _
  refine call_ret (rUnpack_spec (wordAt g a) hw) rfl ?_
  show AOb _ _
  refine ⟨by decide, ?_⟩
  show AOb ((0 : Int) ≤ IntKind.i64.wrap (tdv a 16 - 1) ∧ IntKind.i64.wrap (tdv a 16 - 1) < (g.pages.length : Int)) _
  refine ⟨by rw [e2]; omega, ?_⟩
  have hpg : g.pages.getD (IntKind.i64.wrap (tdv a 16 - 1)).toNat default = pageAt g a := by rw [e2]; rfl
  unfold cellB fitsB
  generalize unp (wordAt g a) = u
  generalize hi : isHd (wordAt g a) = b
  show ABr (bif !b then true else !u.used) _ _
  refine ⟨fun h => ?_, fun h => ?_⟩
  · show ARet _ _ _
    refine ret_bo (x := bif b then (g.pages.getD (IntKind.i64.wrap (tdv a 16 - 1)).toNat default).kind == 1 else false) ?_ ⟨rfl, rfl⟩
    rw [hpg]
    cases b with
    | false => rfl
    | true =>
      have hu : u.used = false := by simpa using h
      rw [hu]
      rfl
  · have hbu : b = true ∧ u.used = true := by cases b <;> simp at h; exact ⟨rfl, h⟩
    obtain ⟨rfl, hu⟩ := hbu
    rw [hu]
    have hk := kind_at hr
    show ACall _ _ _ _ _ _
    refine call_ret (rOf_spec u.n) rfl ?_
    show ABr (clsE u.n != 0) _ _
    refine ⟨fun h => ?_, fun h => ?_⟩
    · have he : clsE u.n ≠ 0 := by simpa using h
      have he' := runE_cls he
      show ARet _ _ _
      refine ret_bo (x := false) ?_ ⟨rfl, rfl⟩
      simp [he, he']
    · have he : clsE u.n = 0 := by simpa using h
      show ABr (decide ((g.pages.getD (IntKind.i64.wrap (tdv a 16 - 1)).toNat default).kind = 1)) _ _
      rw [hpg]
      refine ⟨fun h => ?_, fun h => ?_⟩
      · have hk1 := of_decide_eq_true h
        show ARet _ _ _
        refine ret_bo (x := decide (clsOf u.n = (g.pages.getD (IntKind.i64.wrap (tdv a 16 - 1)).toNat default).arg)) ?_ ⟨rfl, rfl⟩
        rw [hpg, hk1]
        simp [he]
      · have hk1 := of_decide_eq_false h
        have hk2 : (pageAt g a).kind = 2 := by omega
        show ACall _ _ _ _ _ _
        refine call_ret (rRun_spec u.n) rfl ?_
        show ARet _ _ _
        refine ret_bo (x := bif decide (runE u.n = 0) then decide (runOf u.n = (g.pages.getD (IntKind.i64.wrap (tdv a 16 - 1)).toNat default).arg) else false) ?_ ⟨rfl, rfl⟩
        rw [hpg, hk2]
        simp [Bool.cond_eq_ite]

theorem rfree_spec (g : Hp) (a c : Int) (hs : shapedH g = true) : Spec X 70 [] [g.tv, .int a, .int c] (Ret [] (.bo (freeB g c a))) := by
  refine spec_go X_ok Tryz.f70 (by kernel_rfl) (by kernel_rfl) (by kernel_rfl) fun hb hH => ⟨rfl, ?_⟩
  obtain ⟨_, hmp, hsl, _, _, h64⟩ := shapedH_of hs
  show ACall _ _ _ _ _ _
  refine call_ret (Begins_spec g.pages a) rfl ?_
  unfold freeB
  have hr0 := roomAt_nonneg g.pages a
  show ABr (decide (roomAt g.pages a = 0)) _ _
  refine ⟨fun h => ?_, fun h => ?_⟩
  · have h0 := of_decide_eq_true h
    show ARet _ _ _
    refine ret_bo (x := false) ?_ ⟨rfl, rfl⟩
    rw [h0]; simp
  · have h0 := of_decide_eq_false h
    obtain ⟨h1, h2⟩ := room_adr (h := g) h0
    have ew : IntKind.i64.wrap (a - 16) = a - 16 := wrap64 (by omega) (by omega)
    have e1 : tdv a 16 = a / 16 := tdv_eq (by omega) (by omega) (by omega)
    have e2 : IntKind.i64.wrap (tdv a 16 - 1) = a / 16 - 1 := by rw [e1]; exact wrap64 (by omega) (by omega)
    have hpg : g.pages.getD (IntKind.i64.wrap (tdv a 16 - 1)).toNat default = pageAt g a := by rw [e2]; rfl
    show AOb _ _
    refine ⟨by decide, ?_⟩
    show AOb ((0 : Int) ≤ IntKind.i64.wrap (tdv a 16 - 1) ∧ IntKind.i64.wrap (tdv a 16 - 1) < (g.pages.length : Int)) _
    refine ⟨by rw [e2]; omega, ?_⟩
    show ABr ((g.pages.getD (IntKind.i64.wrap (tdv a 16 - 1)).toNat default).kind == 1 && ((g.pages.getD (IntKind.i64.wrap (tdv a 16 - 1)).toNat default).arg == c && true)) _ _
    rw [hpg, page_eq]
    refine ⟨fun h => ?_, fun h => ?_⟩
    · show AOb ((0 : Int) ≤ IntKind.i64.wrap (a - 16) ∧ IntKind.i64.wrap (a - 16) < (g.w.length : Int)) _
      refine ⟨by rw [ew]; omega, ?_⟩
      show ARet _ _ _
      refine ret_bo (x := decide (g.w.getD (IntKind.i64.wrap (a - 16)).toNat default = 0)) ?_ ⟨rfl, rfl⟩
      rw [ew]
      have hp := of_decide_eq_true h
      rw [hp]
      show decide (wordAt g a = 0) = _
      rw [decide_eq_decide]
      constructor
      · intro k; exact ⟨by omega, rfl, k⟩
      · rintro ⟨_, _, k⟩; exact k
    · show ARet _ _ _
      refine ret_bo (x := false) ?_ ⟨rfl, rfl⟩
      have hp := of_decide_eq_false h
      symm
      apply decide_eq_false
      rintro ⟨_, k, _⟩
      exact hp k

theorem rMay7_spec (g : Hp) (cs : List Lists) (hm : (flats (lsts g cs)).length ≤ most) (hc : cs.length < most) (hw : ∀ x ∈ g.w, I64 x) : Spec X 33 [] [g.tv, .c (.d (.sl .lists cs))] (Ret [] (.bo (mayH g cs))) := by
  refine spec_go X_ok Tryz.f33 (by kernel_rfl) (by kernel_rfl) (by kernel_rfl) fun hb hH => ⟨rfl, ?_⟩
  show ACall _ _ _ _ _ _
  refine call_ret (rwMay_spec g.w) rfl ?_
  show ACall _ _ _ _ _ _
  refine call_ret (rpMay_spec g.pages) rfl ?_
  have hla : g.w.length ≤ maxN := ((hb (g.tv) (by simp)) (.d (.sl .int g.w)) (by simp [Hp.enc])).1
  have hlp : g.pages.length ≤ maxN := ((hb (g.tv) (by simp)) (.d (.sl .page g.pages)) (by simp [Hp.enc])).1
  unfold maxN at hla hlp
  have w1 : IntKind.i64.wrap (16 * (g.pages.length : Int)) = 16 * (g.pages.length : Int) := wrap64 (by omega) (by omega)
  have w2 : IntKind.i64.wrap (2 * (g.pages.length : Int)) = 2 * (g.pages.length : Int) := wrap64 (by omega) (by omega)
  show ABr (bif (bif (bif !mayW g.w then true else !mayP g.pages) then true else (g.w.length : Int) != IntKind.i64.wrap (16 * (g.pages.length : Int))) then true else (g.cards.length : Int) != IntKind.i64.wrap (2 * (g.pages.length : Int))) _ _
  rw [w1, w2]
  have hsh : (bif (bif (bif !mayW g.w then true else !mayP g.pages) then true else (g.w.length : Int) != 16 * (g.pages.length : Int)) then true else (g.cards.length : Int) != 2 * (g.pages.length : Int)) = !shapedH g := by
    unfold shapedH
    cases mayW g.w with
    | false => rfl
    | true =>
      cases mayP g.pages with
      | false => rfl
      | true =>
        rw [Bool.eq_iff_iff]
        simp [Bool.cond_eq_ite]
        omega
  rw [hsh]
  unfold mayH
  refine ⟨fun h => ?_, fun h => ?_⟩
  · have hs : shapedH g = false := by simpa using h
    rw [hs]
    show ARet _ _ _
    exact ret_d rfl ⟨rfl, rfl⟩
  have hs : shapedH g = true := by simpa using h
  rw [hs]
  show ACall _ _ _ _ _ _
  refine .mk _ (rAll5_spec g.pages) fun H r ⟨eH, er⟩ _ _ => ⟨.inl rfl, ?_⟩
  subst eH er
  obtain ⟨A, hA⟩ : ∃ A, A = cellStarts g.pages := ⟨_, rfl⟩
  rw [← hA]
  have hAl : A.length ≤ 512 := by rw [hA]; exact starts_len g.pages
  have hAr : ∀ x ∈ A, roomAt g.pages x ≠ 0 := fun x hx => mem_starts.1 (hA ▸ hx)
  show ∃ n, _
  refine ⟨0, ALoop.inv (ι := {i : Nat // i ≤ A.length ∧ A.all (cellB g) = (A.drop i).all (cellB g)}) (fun q => ⟨[(1, .c (.d (.sl .lists (cs)))), (2, .c (.d (.rp (g.enc)))), (7, .c (.d (.sl .int (A)))), (8, .int (q.1))], [], 32⟩) (fun q => A.length - q.1) ⟨0, Nat.zero_le _, by rw [List.drop_zero]⟩ ?_ ?_⟩
  · exact ⟨[], (by repeat' first | exact .nil | refine .cons _ _ _ ?_ ?_ | exact .same | exact .c _ _ (.own _ _ rfl) | exact .c _ _ (.ptr _ _ _ _ rfl) | exact .c _ _ (.frz _ _ rfl) | exact .any _), (by exact .nil), (by rfl)⟩
  · rintro ⟨i, hi, he⟩
    show ABr (decide ((i : Int) < (A.length : Int))) _ _
    refine ⟨fun h => ?_, fun h => ?_⟩
    · have hlt : i < A.length := by simpa using h
      have wi : IntKind.i64.wrap ((i : Int) + 1) = ((i + 1 : Nat) : Int) := wrapP (i := i) (by unfold maxN; omega)
      have he : A.all (cellB g) = (cellB g (A.getD i default) && (A.drop (i + 1)).all (cellB g)) := by
        rw [he, List.drop_eq_getElem_cons hlt, List.all_cons, List.getD_eq_getElem?_getD, List.getElem?_eq_getElem hlt]
        rfl
      have hin : A.getD i default ∈ A := by
        rw [List.getD_eq_getElem?_getD, List.getElem?_eq_getElem hlt]
        exact List.getElem_mem hlt
      show AOb ((0 : Int) ≤ (i : Int) ∧ (i : Int) < (A.length : Int)) _
      refine ⟨by omega, ?_⟩
      have hra := hAr _ hin
      have had := room_adr (h := g) hra
      have hwx : wordAt g (A.getD i default) < 9223372036854775808 := by
        have hidx : (A.getD i default - 16).toNat < g.w.length := by
          have h1 := had.1; have h2 := had.2
          obtain ⟨_, _, h3, _⟩ := shapedH_of hs
          omega
        refine (hw _ ?_).2
        unfold wordAt at0
        rw [List.getD_eq_getElem?_getD, List.getElem?_eq_getElem hidx]
        exact List.getElem_mem hidx
      show ADCall _ _ _ _ _ _
      refine .mk _ _ (rcell_spec g (A.getD i default) hs hra hwx) rfl ?_
      show ABr (!cellB g (A.getD i default)) _ _
      refine ⟨fun h => ?_, fun h => ?_⟩
      · have hf : cellB g (A.getD i default) = false := by simpa using h
        show ARet _ _ _
        refine ret_bo (x := false) ?_ ⟨rfl, rfl⟩
        rw [he, hf]
        simp
      · have hf : cellB g (A.getD i default) = true := by simpa using h
        show ARound _ _ _ _
        exact ⟨⟨i + 1, hlt, by rw [he, hf, Bool.true_and]⟩, (by dsimp only; omega), [], (by repeat' first | exact .nil | refine .cons _ _ _ ?_ ?_ | exact .int_eq wi | exact .same | exact .c _ _ (.own _ _ rfl) | exact .c _ _ (.ptr _ _ _ _ rfl) | exact .c _ _ (.frz _ _ rfl) | exact .any _), (by exact .nil), (by rfl)⟩
    · have hge : i = A.length := by simp at h; omega
      rw [hge, List.drop_length] at he
      have hall : A.all (cellB g) = true := by rw [he]; rfl
      show AOb (1 + cs.length ≤ most) _
      refine ⟨by omega, ?_⟩
      obtain ⟨L, hL⟩ : ∃ L : List Lists, L = g.free :: cs := ⟨_, rfl⟩
      have hlen : L.length ≤ most := by rw [hL, List.length_cons]; omega
      unfold most at hlen
      have hFl : (flats L).length ≤ most := by rw [hL]; exact hm
      show ∃ n, _
      refine ⟨0, ALoop.inv (ι := {i : Nat // i ≤ L.length ∧ L.all (listedB g) = (L.drop i).all (listedB g)}) (fun q => ⟨[(2, .c (.d (.rp (g.enc)))), (9, .c (.d (.sl .lists (L)))), (10, .int (q.1))], [], 32⟩) (fun q => L.length - q.1) ⟨0, Nat.zero_le _, by rw [List.drop_zero]⟩ ?_ ?_⟩
      · exact ⟨[], (by repeat' first | exact .nil | refine .cons _ _ _ ?_ ?_ | exact .frz rfl hL.symm | exact .same | exact .c _ _ (.own _ _ rfl) | exact .c _ _ (.ptr _ _ _ _ rfl) | exact .c _ _ (.frz _ _ rfl) | exact .any _), (by exact .nil), (by rfl)⟩
      · rintro ⟨i, hi, he⟩
        have hLe : (g.free :: cs).all (listedB g) = L.all (listedB g) := by rw [hL]
        show ABr (decide ((i : Int) < (L.length : Int))) _ _
        refine ⟨fun h => ?_, fun h => ?_⟩
        · have hlt : i < L.length := by simpa using h
          have wi : IntKind.i64.wrap ((i : Int) + 1) = ((i + 1 : Nat) : Int) := wrapP (i := i) (by unfold maxN; omega)
          obtain ⟨M, hM⟩ : ∃ M, M = L.getD i default := ⟨_, rfl⟩
          have he : L.all (listedB g) = (listedB g M && (L.drop (i + 1)).all (listedB g)) := by
            rw [he, List.drop_eq_getElem_cons hlt, List.all_cons, hM, List.getD_eq_getElem?_getD, List.getElem?_eq_getElem hlt]
            rfl
          have hlx : M.l0.length ≤ 100000000000 ∧ M.l1.length ≤ 100000000000 ∧ M.l2.length ≤ 100000000000 := by
            have h5 := flats_le L (i + 1)
            rw [flats_take L i hlt, List.length_append] at h5
            have h6 : (L.getD i default).flat.length = (L.getD i default).l0.length + (L.getD i default).l1.length + (L.getD i default).l2.length := by simp [Lists.flat]; omega
            rw [← hM] at h5 h6
            unfold most at hFl
            omega
          obtain ⟨m0, m1, m2⟩ := M
          obtain ⟨hl0, hl1, hl2⟩ := hlx
          have hl0 : m0.length ≤ 100000000000 := hl0
          have hl1 : m1.length ≤ 100000000000 := hl1
          have hl2 : m2.length ≤ 100000000000 := hl2
          have e0 : (L.getD i default).l0 = m0 := by rw [← hM]
          have e1 : (L.getD i default).l1 = m1 := by rw [← hM]
          have e2 : (L.getD i default).l2 = m2 := by rw [← hM]
          have hlb : listedB g ⟨m0, m1, m2⟩ = (m0.all (freeB g 0) && (m1.all (freeB g 1) && m2.all (freeB g 2))) := rfl
          rw [hlb] at he
          show ∃ n, _
          refine ⟨4, ?_⟩
          show ALoop _ _ _ _
          refine .next ?_
          show ABr _ _ _
          refine ⟨fun _ => ?_, fun h => absurd h (by decide)⟩
          show ∃ n, _
          refine ⟨0, ALoop.inv (ι := {k : Nat // k ≤ m0.length ∧ m0.all (freeB g 0) = (m0.drop k).all (freeB g 0)}) (fun q => ⟨[(2, .c (.d (.rp (g.enc)))), (9, .c (.d (.sl .lists (L)))), (10, .int (i)), (11, .int (0)), (12, .int (q.1))], [], 32⟩) (fun q => m0.length - q.1) ⟨0, Nat.zero_le _, by rw [List.drop_zero]⟩ ?_ ?_⟩
          · exact ⟨[], (by repeat' first | exact .nil | refine .cons _ _ _ ?_ ?_ | exact .same | exact .c _ _ (.own _ _ rfl) | exact .c _ _ (.ptr _ _ _ _ rfl) | exact .c _ _ (.frz _ _ rfl) | exact .any _), (by exact .nil), (by rfl)⟩
          rintro ⟨k, hk, hke⟩
          show AOb ((0 : Int) ≤ (i : Int) ∧ (i : Int) < (L.length : Int)) _
          refine ⟨by omega, ?_⟩
          show AOb _ _
          refine ⟨by decide, ?_⟩
          show ABr (decide ((k : Int) < ((L.getD i default).l0.length : Int))) _ _
          rw [e0]
          refine ⟨fun h => ?_, fun h => ?_⟩
          · have hkl : k < m0.length := by simpa using h
            have wk : IntKind.i64.wrap ((k : Int) + 1) = ((k + 1 : Nat) : Int) := wrapP (i := k) (by unfold maxN; omega)
            have hke : m0.all (freeB g 0) = (freeB g 0 (m0.getD k default) && (m0.drop (k + 1)).all (freeB g 0)) := by
              rw [hke, List.drop_eq_getElem_cons hkl, List.all_cons, List.getD_eq_getElem?_getD, List.getElem?_eq_getElem hkl]
              rfl
            show AOb ((0 : Int) ≤ (i : Int) ∧ (i : Int) < (L.length : Int)) _
            refine ⟨by omega, ?_⟩
            show AOb _ _
            refine ⟨by decide, ?_⟩
            show AOb ((0 : Int) ≤ (k : Int) ∧ (k : Int) < ((L.getD i default).l0.length : Int)) _
            refine ⟨by rw [e0]; omega, ?_⟩
            show ADCall _ _ [_, .int ((L.getD i default).l0.getD k default), _] _ _ _
            rw [e0]
            refine .mk _ _ (rfree_spec g (m0.getD k default) 0 hs) rfl ?_
            show ABr (!freeB g 0 (m0.getD k default)) _ _
            refine ⟨fun h => ?_, fun h => ?_⟩
            · have hf : freeB g 0 (m0.getD k default) = false := by simpa using h
              have hfa : m0.all (freeB g 0) = false := by rw [hke, hf]; rfl
              show ARet _ _ _
              refine ret_bo (x := false) ?_ ⟨rfl, rfl⟩
              rw [hLe, he, hfa]
              simp
            · have hf : freeB g 0 (m0.getD k default) = true := by simpa using h
              show ARound _ _ _ _
              exact ⟨⟨k + 1, hkl, by rw [hke, hf, Bool.true_and]⟩, (by dsimp only; omega), [], (by repeat' first | exact .nil | refine .cons _ _ _ ?_ ?_ | exact .int_eq wk | exact .same | exact .c _ _ (.own _ _ rfl) | exact .c _ _ (.ptr _ _ _ _ rfl) | exact .c _ _ (.frz _ _ rfl) | exact .any _), (by exact .nil), (by rfl)⟩
          have hkg : k = m0.length := by simp at h; omega
          rw [hkg, List.drop_length] at hke
          have hall0 : m0.all (freeB g 0) = true := by rw [hke]; rfl
          show ALoop _ _ _ _
          refine .next ?_
          show ABr _ _ _
          refine ⟨fun _ => ?_, fun h => absurd h (by decide)⟩
          show ∃ n, _
          refine ⟨0, ALoop.inv (ι := {k : Nat // k ≤ m1.length ∧ m1.all (freeB g 1) = (m1.drop k).all (freeB g 1)}) (fun q => ⟨[(2, .c (.d (.rp (g.enc)))), (9, .c (.d (.sl .lists (L)))), (10, .int (i)), (11, .int (1)), (12, .int (q.1))], [], 32⟩) (fun q => m1.length - q.1) ⟨0, Nat.zero_le _, by rw [List.drop_zero]⟩ ?_ ?_⟩
          · exact ⟨[], (by repeat' first | exact .nil | refine .cons _ _ _ ?_ ?_ | exact .same | exact .c _ _ (.own _ _ rfl) | exact .c _ _ (.ptr _ _ _ _ rfl) | exact .c _ _ (.frz _ _ rfl) | exact .any _), (by exact .nil), (by rfl)⟩
          rintro ⟨k, hk, hke⟩
          show AOb ((0 : Int) ≤ (i : Int) ∧ (i : Int) < (L.length : Int)) _
          refine ⟨by omega, ?_⟩
          show AOb _ _
          refine ⟨by decide, ?_⟩
          show ABr (decide ((k : Int) < ((L.getD i default).l1.length : Int))) _ _
          rw [e1]
          refine ⟨fun h => ?_, fun h => ?_⟩
          · have hkl : k < m1.length := by simpa using h
            have wk : IntKind.i64.wrap ((k : Int) + 1) = ((k + 1 : Nat) : Int) := wrapP (i := k) (by unfold maxN; omega)
            have hke : m1.all (freeB g 1) = (freeB g 1 (m1.getD k default) && (m1.drop (k + 1)).all (freeB g 1)) := by
              rw [hke, List.drop_eq_getElem_cons hkl, List.all_cons, List.getD_eq_getElem?_getD, List.getElem?_eq_getElem hkl]
              rfl
            show AOb ((0 : Int) ≤ (i : Int) ∧ (i : Int) < (L.length : Int)) _
            refine ⟨by omega, ?_⟩
            show AOb _ _
            refine ⟨by decide, ?_⟩
            show AOb ((0 : Int) ≤ (k : Int) ∧ (k : Int) < ((L.getD i default).l1.length : Int)) _
            refine ⟨by rw [e1]; omega, ?_⟩
            show ADCall _ _ [_, .int ((L.getD i default).l1.getD k default), _] _ _ _
            rw [e1]
            refine .mk _ _ (rfree_spec g (m1.getD k default) 1 hs) rfl ?_
            show ABr (!freeB g 1 (m1.getD k default)) _ _
            refine ⟨fun h => ?_, fun h => ?_⟩
            · have hf : freeB g 1 (m1.getD k default) = false := by simpa using h
              have hfa : m1.all (freeB g 1) = false := by rw [hke, hf]; rfl
              show ARet _ _ _
              refine ret_bo (x := false) ?_ ⟨rfl, rfl⟩
              rw [hLe, he, hfa]
              simp
            · have hf : freeB g 1 (m1.getD k default) = true := by simpa using h
              show ARound _ _ _ _
              exact ⟨⟨k + 1, hkl, by rw [hke, hf, Bool.true_and]⟩, (by dsimp only; omega), [], (by repeat' first | exact .nil | refine .cons _ _ _ ?_ ?_ | exact .int_eq wk | exact .same | exact .c _ _ (.own _ _ rfl) | exact .c _ _ (.ptr _ _ _ _ rfl) | exact .c _ _ (.frz _ _ rfl) | exact .any _), (by exact .nil), (by rfl)⟩
          have hkg : k = m1.length := by simp at h; omega
          rw [hkg, List.drop_length] at hke
          have hall1 : m1.all (freeB g 1) = true := by rw [hke]; rfl
          show ALoop _ _ _ _
          refine .next ?_
          show ABr _ _ _
          refine ⟨fun _ => ?_, fun h => absurd h (by decide)⟩
          show ∃ n, _
          refine ⟨0, ALoop.inv (ι := {k : Nat // k ≤ m2.length ∧ m2.all (freeB g 2) = (m2.drop k).all (freeB g 2)}) (fun q => ⟨[(2, .c (.d (.rp (g.enc)))), (9, .c (.d (.sl .lists (L)))), (10, .int (i)), (11, .int (2)), (12, .int (q.1))], [], 32⟩) (fun q => m2.length - q.1) ⟨0, Nat.zero_le _, by rw [List.drop_zero]⟩ ?_ ?_⟩
          · exact ⟨[], (by repeat' first | exact .nil | refine .cons _ _ _ ?_ ?_ | exact .same | exact .c _ _ (.own _ _ rfl) | exact .c _ _ (.ptr _ _ _ _ rfl) | exact .c _ _ (.frz _ _ rfl) | exact .any _), (by exact .nil), (by rfl)⟩
          rintro ⟨k, hk, hke⟩
          show AOb ((0 : Int) ≤ (i : Int) ∧ (i : Int) < (L.length : Int)) _
          refine ⟨by omega, ?_⟩
          show AOb _ _
          refine ⟨by decide, ?_⟩
          show ABr (decide ((k : Int) < ((L.getD i default).l2.length : Int))) _ _
          rw [e2]
          refine ⟨fun h => ?_, fun h => ?_⟩
          · have hkl : k < m2.length := by simpa using h
            have wk : IntKind.i64.wrap ((k : Int) + 1) = ((k + 1 : Nat) : Int) := wrapP (i := k) (by unfold maxN; omega)
            have hke : m2.all (freeB g 2) = (freeB g 2 (m2.getD k default) && (m2.drop (k + 1)).all (freeB g 2)) := by
              rw [hke, List.drop_eq_getElem_cons hkl, List.all_cons, List.getD_eq_getElem?_getD, List.getElem?_eq_getElem hkl]
              rfl
            show AOb ((0 : Int) ≤ (i : Int) ∧ (i : Int) < (L.length : Int)) _
            refine ⟨by omega, ?_⟩
            show AOb _ _
            refine ⟨by decide, ?_⟩
            show AOb ((0 : Int) ≤ (k : Int) ∧ (k : Int) < ((L.getD i default).l2.length : Int)) _
            refine ⟨by rw [e2]; omega, ?_⟩
            show ADCall _ _ [_, .int ((L.getD i default).l2.getD k default), _] _ _ _
            rw [e2]
            refine .mk _ _ (rfree_spec g (m2.getD k default) 2 hs) rfl ?_
            show ABr (!freeB g 2 (m2.getD k default)) _ _
            refine ⟨fun h => ?_, fun h => ?_⟩
            · have hf : freeB g 2 (m2.getD k default) = false := by simpa using h
              have hfa : m2.all (freeB g 2) = false := by rw [hke, hf]; rfl
              show ARet _ _ _
              refine ret_bo (x := false) ?_ ⟨rfl, rfl⟩
              rw [hLe, he, hfa]
              simp
            · have hf : freeB g 2 (m2.getD k default) = true := by simpa using h
              show ARound _ _ _ _
              exact ⟨⟨k + 1, hkl, by rw [hke, hf, Bool.true_and]⟩, (by dsimp only; omega), [], (by repeat' first | exact .nil | refine .cons _ _ _ ?_ ?_ | exact .int_eq wk | exact .same | exact .c _ _ (.own _ _ rfl) | exact .c _ _ (.ptr _ _ _ _ rfl) | exact .c _ _ (.frz _ _ rfl) | exact .any _), (by exact .nil), (by rfl)⟩
          have hkg : k = m2.length := by simp at h; omega
          rw [hkg, List.drop_length] at hke
          have hall2 : m2.all (freeB g 2) = true := by rw [hke]; rfl
          show ALoop _ _ _ _
          refine .next ?_
          show ABr _ _ _
          refine ⟨fun h => absurd h (by decide), fun _ => ?_⟩
          show ARound _ _ _ _
          exact ⟨⟨i + 1, hlt, by rw [he, hall0, hall1, hall2]; rfl⟩, (by dsimp only; omega), [], (by repeat' first | exact .nil | refine .cons _ _ _ ?_ ?_ | exact .int_eq wi | exact .same | exact .c _ _ (.own _ _ rfl) | exact .c _ _ (.ptr _ _ _ _ rfl) | exact .c _ _ (.frz _ _ rfl) | exact .any _), (by exact .nil), (by rfl)⟩
        · have hge : i = L.length := by simp at h; omega
          rw [hge, List.drop_length] at he
          show ACall _ _ _ _ _ _
          refine call_ret (rApart_spec L hFl) rfl ?_
          show ARet _ _ _
          refine ret_bo (x := decide (flats L).Nodup) ?_ ⟨rfl, rfl⟩
          rw [hall, hLe, he, hL]
          rfl

/-- The first word of a cell is a 64-bit number. -/
theorem word_lt {g : Hp} {a : Int} (hs : shapedH g = true) (had : adr g a) (hw : ∀ x ∈ g.w, I64 x) : wordAt g a < 9223372036854775808 := by
  obtain ⟨_, _, h3, _⟩ := shapedH_of hs
  have h1 := had.1; have h2 := had.2
  have hidx : (a - 16).toNat < g.w.length := by omega
  refine (hw _ ?_).2
  unfold wordAt at0
  rw [List.getD_eq_getElem?_getD, List.getElem?_eq_getElem hidx]
  exact List.getElem_mem hidx

theorem rMay70_spec (g : Hp) (hl : g.light) (hw : ∀ x ∈ g.w, I64 x) : Spec X 33 [] [g.tv, nilS] (Ret [] (.bo (mayH g []))) :=
  (rMay7_spec g [] hl (by unfold most; simp) hw).args (.cons _ _ _ _ (.refl _) (.cons _ _ _ _ (.sl .lists [] _ rfl) .nil))

theorem rHead7_spec (g : Hp) (a : Int) (hl : g.light) (hw : ∀ x ∈ g.w, I64 x) : Spec X 34 [] [g.tv, .int a] (Ret [] (.tup [(headH g a).tv, .int (headE g a)])) := by
  refine spec_go X_ok Tryz.f34 (by kernel_rfl) (by kernel_rfl) (by kernel_rfl) fun hb hH => ⟨rfl, ?_⟩
  show ACall _ _ _ _ _ _
  refine call_ret (rMay70_spec g hl hw) rfl ?_
  show ABr (!mayH g []) _ _
  refine ⟨fun h => ?_, fun h => ?_⟩
  · have hm : mayH g [] = false := by simpa using h
    have hE : headE g a = 1 := by unfold headE; rw [hm]; rfl
    rw [headH_no hE (by decide), hE]
    show ARet _ _ _
    exact ret_d rfl ⟨rfl, rfl⟩
  have hm : mayH g [] = true := by simpa using h
  have hs := mayH_shaped hm
  obtain ⟨_, _, hsl, _, _, h64⟩ := shapedH_of hs
  show ACall _ _ _ _ _ _
  refine call_ret (Begins_spec g.pages a) rfl ?_
  show AOb ((roomAt g.pages a == 0) = false ∧ True → (0 : Int) ≤ IntKind.i64.wrap (a - 16) ∧ IntKind.i64.wrap (a - 16) < (g.w.length : Int)) _
  refine ⟨fun h => ?_, ?_⟩
  · have hr : roomAt g.pages a ≠ 0 := by simpa using h.1
    obtain ⟨h1, h2⟩ := room_adr (h := g) hr
    rw [wrap64 (by omega) (by omega)]
    omega
  show ABr (bif roomAt g.pages a == 0 then true else g.w.getD (IntKind.i64.wrap (a - 16)).toNat default == 0) _ _
  by_cases hr : roomAt g.pages a = 0
  · have hE : headE g a = 3 := by unfold headE; rw [hm, decide_eq_true hr]; rfl
    rw [headH_no hE (by decide), hE, hr]
    show ABr _ _ _
    refine ⟨fun _ => ?_, fun h => absurd h (by simp)⟩
    show ARet _ _ _
    exact ret_d rfl ⟨rfl, rfl⟩
  · obtain ⟨h1, h2⟩ := room_adr (h := g) hr
    have ew : IntKind.i64.wrap (a - 16) = a - 16 := wrap64 (by omega) (by omega)
    have hwt := word_lt hs ⟨h1, h2⟩ hw
    have hget : g.w.getD (IntKind.i64.wrap (a - 16)).toNat default = wordAt g a := by rw [ew]; rfl
    have hb0 : (roomAt g.pages a == 0) = false := by simpa using hr
    have hc := (mayH_of hm).2.2.1 a (mem_starts.2 hr)
    unfold cellB at hc
    rw [Bool.and_eq_true] at hc
    have hu := used_ne hc.1
    rw [hget, hb0]
    refine ⟨fun h => ?_, fun h => ?_⟩
    · have h0 : wordAt g a = 0 := by simpa using h
      have hE : headE g a = 3 := by unfold headE; rw [hm, decide_eq_false hr, hu, h0]; rfl
      rw [headH_no hE (by decide), hE]
      show ARet _ _ _
      exact ret_d rfl ⟨rfl, rfl⟩
    · have h0 : wordAt g a ≠ 0 := by simpa using h
      have hE : headE g a = 0 := by unfold headE; rw [hm, decide_eq_false hr, hu, bne_iff_ne.2 h0]; rfl
      rw [headH_yes hE, hE]
      show AOb ((0 : Int) ≤ IntKind.i64.wrap (a - 16) ∧ IntKind.i64.wrap (a - 16) < (g.w.length : Int)) _
      refine ⟨by rw [ew]; omega, ?_⟩
      show ACall _ _ [.int (g.w.getD (IntKind.i64.wrap (a - 16)).toNat default)] _ _ _
      rw [hget]
      refine call_ret (rUnpack_spec (wordAt g a) hwt) rfl ?_
      show ARet _ _ _
      exact ret_d rfl ⟨rfl, rfl⟩

end Go.Abs
