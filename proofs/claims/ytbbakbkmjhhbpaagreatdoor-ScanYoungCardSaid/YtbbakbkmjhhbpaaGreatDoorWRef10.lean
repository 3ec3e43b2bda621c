/- Walks: the document's cards. -/
import Derived.Test.YtbbakbkmjhhbpaaGreatDoorWRefOwn
import Derived.Test.YtbbakbkmjhhbpaaGreatDoorWCards2
import Derived.Test.YtbbakbkmjhhbpaaGreatDoorWCardsAll
set_option linter.all false
set_option linter.unusedVariables false
set_option linter.unusedSimpArgs false
namespace Go.Abs
open Go.Proofs Go.Proofs.YtbbakbkmjhhbpaaGreatDoor
set_option maxRecDepth 8000

theorem rIs2_spec (w : List Int) (a : Int) : Spec X 55 [] [.c (.d (.sl .int w)), .int a] (Ret [] (.bo (decide (16 ≤ a ∧ a < 16 + (w.length : Int))))) := by
  refine spec_go X_ok Tryz.f55 (by kernel_rfl) (by kernel_rfl) (by kernel_rfl) fun hb hH => ⟨rfl, ?_⟩
  have hla : w.length ≤ maxN := (hb (.c (.d (.sl .int w))) (by simp)).1
  unfold maxN at hla
  have w1 : IntKind.i64.wrap (16 + (w.length : Int)) = 16 + (w.length : Int) := wrap64 (by omega) (by omega)
  show ARet _ _ _
  refine ret_bo (x := bif decide (a ≥ 16) then decide (a < IntKind.i64.wrap (16 + (w.length : Int))) else false) ?_ ⟨rfl, rfl⟩
  rw [w1, decide_and']
  cases decide (a ≥ 16) <;> rfl

theorem rOf10_spec (g : Hp) (a : Int) (hl : g.light) (hw : ∀ x ∈ g.w, I64 x) : Spec X 22 [] [g.tv, .int a] (Ret [] (.tup [.int (cardOf g a), .int (cardE g a)])) := by
  refine spec_go X_ok Tryz.f22 (by kernel_rfl) (by kernel_rfl) (by kernel_rfl) fun hb hH => ⟨rfl, ?_⟩
  show ACall _ _ _ _ _ _
  refine call_ret (rMay70_spec g hl hw) rfl ?_
  cases hm : mayH g [] with
  | false =>
    have hE : cardE g a = 1 := by unfold cardE; rw [hm]; rfl
    rw [cardOf_no (by rw [hE]; decide), hE]
    show ABr _ _ _
    refine ⟨fun _ => ?_, fun h => absurd h (by decide)⟩
    show ARet _ _ _
    exact ret_d rfl ⟨rfl, rfl⟩
  | true =>
    show ABr _ _ _
    refine ⟨fun h => absurd h (by decide), fun _ => ?_⟩
    obtain ⟨_, _, hsl, _, _, h64⟩ := shapedH_of (mayH_shaped hm)
    show ACall _ _ _ _ _ _
    refine call_ret (rIs2_spec g.w a) rfl ?_
    by_cases hin : 16 ≤ a ∧ a < 16 + (g.w.length : Int)
    · rw [decide_eq_true hin]
      show ABr _ _ _
      refine ⟨fun h => absurd h (by decide), fun _ => ?_⟩
      have hE := cardE_mk hm hin
      rw [cardOf_yes hE, hE]
      show ∃ n, _
      refine ⟨0, ALoop.inv (ι := {n : Nat // 16 + 8 * (n : Int) ≤ a}) (fun q => ⟨[(1, .int (a)), (7, .int (q.1))], [], 32⟩) (fun q => (a - (16 + 8 * (q.1 : Int))).toNat) ⟨0, by omega⟩ ?_ ?_⟩
      · exact ⟨[], (by repeat' first | exact .nil | refine .cons _ _ _ ?_ ?_ | exact .same | exact .c _ _ (.own _ _ rfl) | exact .c _ _ (.ptr _ _ _ _ rfl) | exact .c _ _ (.frz _ _ rfl) | exact .any _), (by exact .nil), (by rfl)⟩
      rintro ⟨n, hn⟩
      have hn : 16 + 8 * (n : Int) ≤ a := hn
      have w1 : IntKind.i64.wrap (8 * (n : Int)) = 8 * (n : Int) := wrap64 (by omega) (by omega)
      have w2 : IntKind.i64.wrap (24 + 8 * (n : Int)) = 24 + 8 * (n : Int) := wrap64 (by omega) (by omega)
      have wn : IntKind.i64.wrap ((n : Int) + 1) = ((n + 1 : Nat) : Int) := wrapP (i := n) (by unfold maxN; omega)
      show ABr (decide (IntKind.i64.wrap (24 + IntKind.i64.wrap (8 * (n : Int))) ≤ a)) _ _
      rw [w1, w2]
      refine ⟨fun h => ?_, fun h => ?_⟩
      · have h := of_decide_eq_true h
        show ARound _ _ _ _
        exact ⟨⟨n + 1, by omega⟩, (by dsimp only; omega), [], (by repeat' first | exact .nil | refine .cons _ _ _ ?_ ?_ | exact .int_eq wn | exact .same | exact .c _ _ (.own _ _ rfl) | exact .c _ _ (.ptr _ _ _ _ rfl) | exact .c _ _ (.frz _ _ rfl) | exact .any _), (by exact .nil), (by rfl)⟩
      · have h := of_decide_eq_false h
        rw [show (a - 16) / 8 = (n : Int) by omega]
        show ARet _ _ _
        exact ret_d rfl ⟨rfl, rfl⟩
    · rw [decide_eq_false hin]
      have hE : cardE g a = 3 := by unfold cardE; rw [hm, decide_eq_false hin]; rfl
      rw [cardOf_no (by rw [hE]; decide), hE]
      show ABr _ _ _
      refine ⟨fun _ => ?_, fun h => absurd h (by decide)⟩
      show ARet _ _ _
      exact ret_d rfl ⟨rfl, rfl⟩



theorem rIs10_spec (g : Hp) (a : Int) (hl : g.light) (hw : ∀ x ∈ g.w, I64 x) : Spec X 51 [] [g.tv, .int a] (Ret [] (.bo (isDirty g a))) := by
  refine spec_go X_ok Tryz.f51 (by kernel_rfl) (by kernel_rfl) (by kernel_rfl) fun hb hH => ⟨rfl, ?_⟩
  show ACall _ _ _ _ _ _
  refine call_ret (rOf10_spec g a hl hw) rfl ?_
  unfold isDirty
  by_cases h0 : cardE g a = 0
  · have hci := card_in h0
    rw [h0]
    show AOb (((0 : Int) == 0) = true ∧ True → (0 : Int) ≤ cardOf g a ∧ cardOf g a < (g.cards.length : Int)) _
    refine ⟨fun _ => hci, ?_⟩
    show ARet _ _ _
    refine ret_bo (x := bif (0 : Int) == 0 then g.cards.getD (cardOf g a).toNat default else false) ?_ ⟨rfl, rfl⟩
    rfl
  · show AOb ((cardE g a == 0) = true ∧ True → (0 : Int) ≤ cardOf g a ∧ cardOf g a < (g.cards.length : Int)) _
    refine ⟨fun h => absurd (by simpa using h.1) h0, ?_⟩
    show ARet _ _ _
    refine ret_bo (x := bif cardE g a == 0 then g.cards.getD (cardOf g a).toNat default else false) ?_ ⟨rfl, rfl⟩
    have h1 : (cardE g a == 0) = false := by simpa using h0
    rw [h1, decide_eq_false h0]
    rfl

theorem on_filter {g : Hp} {c : Int} : (usedH g).filter (fun a => cardOf g a == c) = onH g c := by
  refine sorted_same ((usedH_sorted g).filter _) (onH_sorted g c) fun x => ?_
  rw [List.mem_filter, beq_iff_eq]
  unfold onH
  constructor
  · rintro ⟨hx, hc⟩
    have had := (head_fits (mem_usedH.1 hx)).2.2.2
    have hm := (headE_of (mem_usedH.1 hx)).1
    obtain ⟨_, _, hsl, hcl, _⟩ := shapedH_of (mayH_shaped hm)
    have h1 := had.1; have h2 := had.2
    have hE : cardE g x = 0 := cardE_mk hm ⟨h1, by omega⟩
    rw [cardOf_yes hE] at hc
    rw [decide_eq_true (show 0 ≤ c ∧ c < (g.cards.length : Int) by omega)]
    exact mem_onTo.2 ⟨hx, by omega, by omega⟩
  · intro h
    cases hd : decide (0 ≤ c ∧ c < (g.cards.length : Int)) with
    | false => rw [hd] at h; cases h
    | true =>
      rw [hd] at h
      obtain ⟨hx, h1, h2⟩ := mem_onTo.1 h
      have had := (head_fits (mem_usedH.1 hx)).2.2.2
      have hm := (headE_of (mem_usedH.1 hx)).1
      obtain ⟨_, _, hsl, hcl, _⟩ := shapedH_of (mayH_shaped hm)
      have h3 := had.1; have h4 := had.2
      have hE : cardE g x = 0 := cardE_mk hm ⟨h3, by omega⟩
      exact ⟨hx, by rw [cardOf_yes hE]; omega⟩

theorem rOn_spec (g : Hp) (c : Int) (hl : g.light) (hw : ∀ x ∈ g.w, I64 x) : Spec X 76 [] [g.tv, .int c] (Ret [(0, .data .int (onH g c))] (.c (.own 0))) := by
  refine spec_go X_ok Tryz.f76 (by kernel_rfl) (by kernel_rfl) (by kernel_rfl) fun hb hH => ⟨rfl, ?_⟩
  show ACall _ _ _ _ _ _
  refine .mk _ (rUsed7_spec g hl hw) fun H r ⟨eH, er⟩ _ _ => ⟨.inl rfl, ?_⟩
  subst eH er
  rw [← on_filter]
  have hUl : (usedH g).length ≤ 512 := by
    unfold usedH
    cases mayH g [] with
    | false => exact Nat.zero_le _
    | true => exact Nat.le_trans (List.length_filter_le _ _) (starts_len g.pages)
  obtain ⟨U, hU⟩ : ∃ U, U = usedH g := ⟨_, rfl⟩
  rw [← hU] at hUl ⊢
  show ∃ n, _
  refine ⟨0, ALoop.inv (ι := {i : Nat // i ≤ U.length}) (fun q => ⟨[(1, .int (c)), (2, .c (.d (.rp (g.enc)))), (5, .c (.d (.sl .int (U)))), (6, .c (.own 1)), (7, .int (q.1))], [(1, .data .int ((U.take q.1).filter fun a => cardOf g a == c))], 64⟩) (fun q => U.length - q.1) ⟨0, Nat.zero_le _⟩ ?_ ?_⟩
  · exact ⟨[], (by repeat' first | exact .nil | refine .cons _ _ _ ?_ ?_ | exact .c _ _ (.nilown 1 .int rfl rfl) | exact .same | exact .c _ _ (.own _ _ rfl) | exact .c _ _ (.ptr _ _ _ _ rfl) | exact .c _ _ (.frz _ _ rfl) | exact .any _), (by exact .new 1 .int _ rfl .nil), (by rfl)⟩
  rintro ⟨i, hi⟩
  show ABr (decide ((i : Int) < (U.length : Int))) _ _
  refine ⟨fun h => ?_, fun h => ?_⟩
  · have hlt : i < U.length := by simpa using h
    have wi : IntKind.i64.wrap ((i : Int) + 1) = ((i + 1 : Nat) : Int) := wrapP (i := i) (by unfold maxN; omega)
    have hst : (U.take (i + 1)).filter (fun a => cardOf g a == c) = (U.take i).filter (fun a => cardOf g a == c) ++ (bif cardOf g (U.getD i default) == c then [U.getD i default] else []) := by
      rw [take_at0 hlt, List.filter_append]
      show _ ++ List.filter _ [U.getD i default] = _
      rw [List.filter_cons, List.filter_nil]
      cases (cardOf g (U.getD i default) == c) <;> rfl
    have hfl : ((U.take i).filter (fun a => cardOf g a == c)).length ≤ 512 := by
      refine Nat.le_trans (List.length_filter_le _ _) ?_
      rw [List.length_take]; omega
    show AOb ((0 : Int) ≤ (i : Int) ∧ (i : Int) < (U.length : Int)) _
    refine ⟨by omega, ?_⟩
    show ADCall _ _ _ _ _ _
    refine .mk _ _ (rOf10_spec g (U.getD i default) hl hw) rfl ?_
    show ABr (cardOf g (U.getD i default) == c) _ _
    refine ⟨fun h => ?_, fun h => ?_⟩
    · rw [h] at hst
      show AOb ((0 : Int) ≤ (i : Int) ∧ (i : Int) < (U.length : Int)) _
      refine ⟨by omega, ?_⟩
      show AOb (((U.take i).filter (fun a => cardOf g a == c)).length + 1 ≤ most) _
      refine ⟨by unfold most; omega, ?_⟩
      show ARound _ _ _ _
      exact ⟨⟨i + 1, hlt⟩, (by dsimp only; omega), [(_, 1)], (by repeat' first | exact .nil | refine .cons _ _ _ ?_ ?_ | exact .c _ _ (.own1 _ _) | exact .int_eq wi | exact .same | exact .c _ _ (.own _ _ rfl) | exact .c _ _ (.ptr _ _ _ _ rfl) | exact .c _ _ (.frz _ _ rfl) | exact .any _), (by exact .old 1 _ _ _ _ rfl rfl (.data_eq hst.symm) .nil), (by rfl)⟩
    · rw [h] at hst
      show ARound _ _ _ _
      exact ⟨⟨i + 1, hlt⟩, (by dsimp only; omega), [(1, 1)], (by repeat' first | exact .nil | refine .cons _ _ _ ?_ ?_ | exact .int_eq wi | exact .same | exact .c _ _ (.own _ _ rfl) | exact .c _ _ (.ptr _ _ _ _ rfl) | exact .c _ _ (.frz _ _ rfl) | exact .any _), (by exact .old 1 1 _ _ _ rfl rfl (.data_eq ((List.append_nil _).symm.trans hst.symm)) .nil), (by rfl)⟩
  · have hfin : (U.take i).filter (fun a => cardOf g a == c) = U.filter (fun a => cardOf g a == c) := by
      rw [show i = U.length by simp at h; omega, List.take_length]
    show ARet _ _ _
    exact ⟨[(1, 0)], [(0, .data .int (U.filter fun a => cardOf g a == c))], [.c (.own 0)], .cons _ _ _ _ (.c _ _ (.own1 _ _)) .nil, .old 0 1 _ _ _ rfl rfl (.data_eq hfin) .nil, rfl, rfl, rfl⟩

theorem rNext10_spec (g : Hp) (c a : Int) (hl : g.light) (hw : ∀ x ∈ g.w, I64 x) : Spec X 37 [] [g.tv, .int c, .int a] (Ret [] (.tup [.int ((nextO g c a).getD 0), .bo (nextO g c a).isSome])) := by
  refine spec_go X_ok Tryz.f37 (by kernel_rfl) (by kernel_rfl) (by kernel_rfl) fun hb hH => ⟨rfl, ?_⟩
  show ACall _ _ _ _ _ _
  refine .mk _ (rOn_spec g c hl hw) fun H r ⟨eH, er⟩ _ _ => ⟨.inl rfl, ?_⟩
  subst eH er
  unfold nextO
  have hLl := onH_len g c
  obtain ⟨L, hL⟩ : ∃ L, L = onH g c := ⟨_, rfl⟩
  rw [← hL] at hLl ⊢
  show ∃ n, _
  refine ⟨0, ALoop.inv (ι := {i : Nat // i ≤ L.length ∧ L.find? (fun b => decide (a < b) && (headH g b).old) = (L.drop i).find? (fun b => decide (a < b) && (headH g b).old)}) (fun q => ⟨[(2, .int (a)), (3, .c (.d (.rp (g.enc)))), (8, .c (.d (.sl .int (L)))), (9, .int (q.1))], [], 32⟩) (fun q => L.length - q.1) ⟨0, Nat.zero_le _, by rw [List.drop_zero]⟩ ?_ ?_⟩
  · exact ⟨[], (by repeat' first | exact .nil | refine .cons _ _ _ ?_ ?_ | exact .same | exact .c _ _ (.own _ _ rfl) | exact .c _ _ (.ptr _ _ _ _ rfl) | exact .c _ _ (.frz _ _ rfl) | exact .any _), (by exact .nil), (by rfl)⟩
  rintro ⟨i, hi, he⟩
  show ABr (decide ((i : Int) < (L.length : Int))) _ _
  refine ⟨fun h => ?_, fun h => ?_⟩
  · have hlt : i < L.length := by simpa using h
    have wi : IntKind.i64.wrap ((i : Int) + 1) = ((i + 1 : Nat) : Int) := wrapP (i := i) (by unfold maxN; omega)
    have he : L.find? (fun b => decide (a < b) && (headH g b).old) = (bif (decide (a < L.getD i default) && (headH g (L.getD i default)).old) then some (L.getD i default) else (L.drop (i + 1)).find? (fun b => decide (a < b) && (headH g b).old)) := by
      rw [he, List.drop_eq_getElem_cons hlt, List.find?_cons, List.getD_eq_getElem?_getD, List.getElem?_eq_getElem hlt]
      show (match decide (a < L[i]) && (headH g L[i]).old with | true => _ | false => _) = (bif decide (a < L[i]) && (headH g L[i]).old then _ else _)
      cases (decide (a < L[i]) && (headH g L[i]).old) <;> rfl
    obtain ⟨x, hx⟩ : ∃ x, x = L.getD i default := ⟨_, rfl⟩
    rw [← hx] at he
    show AOb ((0 : Int) ≤ (i : Int) ∧ (i : Int) < (L.length : Int)) _
    refine ⟨by omega, ?_⟩
    show ADCall _ _ [_, .int (L.getD i default)] _ _ _
    rw [← hx]
    refine .mk _ _ (rHead7_spec g x hl hw) rfl ?_
    show AOb ((0 : Int) ≤ (i : Int) ∧ (i : Int) < (L.length : Int)) _
    refine ⟨by omega, ?_⟩
    have hcm : (bif decide (L.getD i default > a) then (headH g x).old else false) = (decide (a < x) && (headH g x).old) := by
      rw [← hx]
      show (bif decide (a < x) then _ else _) = _
      cases decide (a < x) <;> rfl
    show ABr (bif decide (L.getD i default > a) then (headH g x).old else false) _ _
    rw [hcm]
    refine ⟨fun h => ?_, fun h => ?_⟩
    · rw [h] at he
      show AOb ((0 : Int) ≤ (i : Int) ∧ (i : Int) < (L.length : Int)) _
      refine ⟨by omega, ?_⟩
      show ARet _ _ _
      exact ret_d rfl ⟨rfl, (congrArg (fun o : Option Int => TV.tup [.int (o.getD 0), .bo o.isSome]) (he.trans (congrArg some hx))).symm⟩
    · rw [h] at he
      show ARound _ _ _ _
      exact ⟨⟨i + 1, hlt, he⟩, (by dsimp only; omega), [], (by repeat' first | exact .nil | refine .cons _ _ _ ?_ ?_ | exact .int_eq wi | exact .same | exact .c _ _ (.own _ _ rfl) | exact .c _ _ (.ptr _ _ _ _ rfl) | exact .c _ _ (.frz _ _ rfl) | exact .any _), (by exact .nil), (by rfl)⟩
  · have hge : i = L.length := by simp at h; omega
    have he : L.find? (fun b => decide (a < b) && (headH g b).old) = none := by rw [he, hge, List.drop_length]; rfl
    show ARet _ _ _
    exact ret_d rfl ⟨rfl, (congrArg (fun o : Option Int => TV.tup [.int (o.getD 0), .bo o.isSome]) he).symm⟩
end Go.Abs
