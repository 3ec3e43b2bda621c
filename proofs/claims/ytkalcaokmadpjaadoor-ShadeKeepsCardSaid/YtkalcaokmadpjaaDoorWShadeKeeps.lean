/- Walks: what is shaded is white no more; all else is as it was. -/
import Derived.Test.YtkalcaokmadpjaaDoorWShadeK
import Derived.Test.YtkalcaokmadpjaaDoorWBegins
set_option linter.all false
set_option linter.unusedVariables false
set_option linter.unusedSimpArgs false
namespace Go.Abs
open Go.Proofs Go.Proofs.YtkalcaokmadpjaaDoor
set_option maxRecDepth 8000

theorem slisted_spec (g : Hp) (c : Col) (hl : g.light) : Spec X 52 [] [g.tv, c.tv] (Ret [] (.bo (listedK g c))) := by
  refine spec_go X_ok Tryd.f52 (by kernel_rfl) (by kernel_rfl) (by kernel_rfl) fun hb hH => ⟨rfl, ?_⟩
  have hwl : c.work.length ≤ maxN := ((hb (c.tv) (by simp)) (.d (.sl .int c.work)) (by simp [Col.enc])).1
  unfold maxN at hwl
  show ACall _ _ _ _ _ _
  refine call_ret (Grey_spec g c hl) rfl ?_
  obtain ⟨G, hG⟩ : ∃ G, G = greyH g c := ⟨_, rfl⟩
  have hLK : listedK g c = (c.over || G.all fun x => c.work.contains x) := by rw [hG]; rfl
  rw [← hG, hLK]
  have hGl : G.length ≤ 512 := by
    rw [hG]
    unfold greyH usedH
    refine Nat.le_trans (List.length_filter_le _ _) ?_
    cases mayH g [] with
    | false => exact Nat.zero_le _
    | true => exact Nat.le_trans (List.length_filter_le _ _) (starts_len g.pages)
  obtain ⟨P, hP⟩ : ∃ P : Int → Bool, P = fun x => c.work.contains x := ⟨_, rfl⟩
  rw [← hP]
  show ∃ n, _
  refine ⟨0, ALoop.inv (ι := {i : Nat // i ≤ G.length ∧ (c.over = true → i = 0) ∧ G.all P = (G.drop i).all P}) (fun q => ⟨[(3, .c (.d (.rp (c.enc)))), (5, .c (.d (.sl .int (G)))), (6, .int (q.1))], [], 32⟩) (fun q => G.length - q.1) ⟨0, Nat.zero_le _, fun _ => rfl, by rw [List.drop_zero]⟩ ?_ ?_⟩
  · exact ⟨[], (by repeat' first | exact .nil | refine .cons _ _ _ ?_ ?_ | exact .same | exact .c _ _ (.own _ _ rfl) | exact .c _ _ (.ptr _ _ _ _ rfl) | exact .c _ _ (.frz _ _ rfl) | exact .any _), (by exact .nil), (by rfl)⟩
  rintro ⟨i, hi, ho, he⟩
  show ABr (bif decide ((i : Int) < (G.length : Int)) then !c.over else false) _ _
  refine ⟨fun h => ?_, fun h => ?_⟩
  · have hlt : i < G.length := by
      by_cases h1 : (i : Int) < (G.length : Int)
      · omega
      · rw [decide_eq_false h1] at h; exact absurd h (by simp)
    have hov : c.over = false := by rw [decide_eq_true (by omega)] at h; simpa using h
    have wi : IntKind.i64.wrap ((i : Int) + 1) = ((i + 1 : Nat) : Int) := wrapP (i := i) (by unfold maxN; omega)
    have he : G.all P = (P (G.getD i default) && (G.drop (i + 1)).all P) := by
      rw [he, List.drop_eq_getElem_cons hlt, List.all_cons, List.getD_eq_getElem?_getD, List.getElem?_eq_getElem hlt]
      rfl
    obtain ⟨x, hx⟩ : ∃ x, x = G.getD i default := ⟨_, rfl⟩
    rw [← hx] at he
    show ∃ n, _
    refine ⟨0, ALoop.inv (ι := {k : Nat // k ≤ c.work.length}) (fun q => ⟨[(3, .c (.d (.rp (c.enc)))), (5, .c (.d (.sl .int (G)))), (6, .int (i)), (7, .bo ((c.work.take q.1).contains x)), (8, .int (q.1))], [], 32⟩) (fun q => c.work.length - q.1) ⟨0, Nat.zero_le _⟩ ?_ ?_⟩
    · exact ⟨[], (by repeat' first | exact .nil | refine .cons _ _ _ ?_ ?_ | exact .bo_eq rfl | exact .same | exact .c _ _ (.own _ _ rfl) | exact .c _ _ (.ptr _ _ _ _ rfl) | exact .c _ _ (.frz _ _ rfl) | exact .any _), (by exact .nil), (by rfl)⟩
    rintro ⟨k, hk⟩
    show ABr (decide ((k : Int) < (c.work.length : Int))) _ _
    refine ⟨fun h => ?_, fun h => ?_⟩
    · have hkl : k < c.work.length := by simpa using h
      have wk : IntKind.i64.wrap ((k : Int) + 1) = ((k + 1 : Nat) : Int) := wrapP (i := k) (by unfold maxN; omega)
      have hst : (c.work.take (k + 1)).contains x = ((c.work.take k).contains x || x == at0 c.work k) := by
        rw [take_at0 hkl, List.contains_append, List.contains_cons, List.contains_nil, Bool.or_false]
      show ABr ((c.work.take k).contains x) _ _
      refine ⟨fun h => ?_, fun h => ?_⟩
      · rw [h, Bool.true_or] at hst
        show ARound _ _ _ _
        exact ⟨⟨k + 1, hkl⟩, (by dsimp only; omega), [], (by repeat' first | exact .nil | refine .cons _ _ _ ?_ ?_ | exact .int_eq wk | exact .bo_eq hst.symm | exact .same | exact .c _ _ (.own _ _ rfl) | exact .c _ _ (.ptr _ _ _ _ rfl) | exact .c _ _ (.frz _ _ rfl) | exact .any _), (by exact .nil), (by rfl)⟩
      · rw [h, Bool.false_or] at hst
        have h7 : decide (c.work.getD k default = G.getD i default) = (c.work.take (k + 1)).contains x := by
          rw [hst, ← hx, Bool.eq_iff_iff, decide_eq_true_iff, beq_iff_eq]
          exact ⟨fun e => e.symm, fun e => e.symm⟩
        show AOb ((0 : Int) ≤ (k : Int) ∧ (k : Int) < (c.work.length : Int)) _
        refine ⟨by omega, ?_⟩
        show AOb ((0 : Int) ≤ (i : Int) ∧ (i : Int) < (G.length : Int)) _
        refine ⟨by omega, ?_⟩
        show ARound _ _ _ _
        exact ⟨⟨k + 1, hkl⟩, (by dsimp only; omega), [], (by repeat' first | exact .nil | refine .cons _ _ _ ?_ ?_ | exact .int_eq wk | exact .bo_eq h7 | exact .same | exact .c _ _ (.own _ _ rfl) | exact .c _ _ (.ptr _ _ _ _ rfl) | exact .c _ _ (.frz _ _ rfl) | exact .any _), (by exact .nil), (by rfl)⟩
    · have hge : k = c.work.length := by simp at h; omega
      have hfx : (c.work.take k).contains x = P x := by rw [hge, List.take_length, hP]
      show ABr (!(c.work.take k).contains x) _ _
      rw [hfx]
      refine ⟨fun h => ?_, fun h => ?_⟩
      · have hpx : P x = false := by simpa using h
        show ARet _ _ _
        refine ret_bo (x := false) ?_ ⟨rfl, rfl⟩
        rw [he, hpx, hov]
        rfl
      · have hpx : P x = true := by simpa using h
        show ARound _ _ _ _
        exact ⟨⟨i + 1, hlt, (fun h => absurd h (by rw [hov]; decide)), by rw [he, hpx, Bool.true_and]⟩, (by dsimp only; omega), [], (by repeat' first | exact .nil | refine .cons _ _ _ ?_ ?_ | exact .int_eq wi | exact .same | exact .c _ _ (.own _ _ rfl) | exact .c _ _ (.ptr _ _ _ _ rfl) | exact .c _ _ (.frz _ _ rfl) | exact .any _), (by exact .nil), (by rfl)⟩
  · show ARet _ _ _
    refine ret_bo (x := true) ?_ ⟨rfl, rfl⟩
    cases hov : c.over with
    | true => rfl
    | false =>
      rw [hov] at h
      have hge : i = G.length := by
        by_cases h1 : (i : Int) < (G.length : Int)
        · rw [decide_eq_true h1] at h; exact absurd h (by simp)
        · omega
      rw [he, hge, List.drop_length]
      rfl

theorem ShadeKeeps_spec (g : Hp) (c : Col) (a : Int) : Spec X 15 [] [g.tv, c.tv, .int a] (Ret [] (.bo true)) := by
  refine spec_go X_ok Tryd.f15 (by kernel_rfl) (by kernel_rfl) (by kernel_rfl) fun hb hH => ⟨rfl, ?_⟩
  show ACall _ _ _ _ _ _
  refine call_ret (awake11_spec) rfl ?_
  show ACall _ _ _ _ _ _
  refine call_ret (few11_spec g c) rfl ?_
  cases hf : few11 g c with
  | false =>
    show AIf _ _ _
    refine ⟨fun h => absurd h.1 (by decide), fun _ => ?_⟩
    show AOb _ _
    refine ⟨by decide, ?_⟩
    show ABr _ _ _
    refine ⟨fun _ => ?_, fun h => absurd h (by simp)⟩
    show ARet _ _ _
    exact ret_d rfl ⟨rfl, rfl⟩
  | true =>
    have hf' := hf
    unfold few11 at hf'
    rw [Bool.and_eq_true, decide_eq_true_eq] at hf'
    have hl := few_light hf'.1
    have hs := few_small hf'.1
    have hw : c.work.length < most := by unfold most; omega
    show AIf _ _ _
    refine ⟨fun _ => ?_, fun h => absurd ⟨rfl, trivial⟩ h⟩
    show ACall _ _ _ _ _ _
    refine call_ret (hHMay0_spec g hl) rfl ?_
    cases hm : mayH g [] with
    | false =>
      show ABr _ _ _
      refine ⟨fun _ => ?_, fun h => absurd h (by simp)⟩
      show ARet _ _ _
      exact ret_d rfl ⟨rfl, rfl⟩
    | true =>
      show ABr _ _ _
      refine ⟨fun h => absurd h (by simp), fun _ => ?_⟩
      show ACall _ _ _ _ _ _
      refine call_ret (Shade_spec g c a hl hs hw) rfl ?_
      have hl' := shade_light hl c a
      obtain ⟨e1, e2, e3, e4⟩ := shadeG_rest g c a
      have hwh : whiteH (shadeG g c a) (shadeC g c a) a = false := by
        unfold whiteH
        apply decide_eq_false
        rw [atK_shadeC, atK_shade]
        by_cases hk : atK g c a = 1
        · rw [if_pos ⟨rfl, hk⟩]; decide
        · rw [if_neg (fun h => hk h.2)]; exact hk
      have hcond : (bif (bif !true then true else (bif c.over then !(shadeC g c a).over else false)) then true else decide (((shadeC g c a).work.length : Int) > IntKind.i64.wrap ((c.work.length : Int) + 1))) = false := by
        rw [wrap64 (by omega) (by unfold most at hw; omega)]
        by_cases hk : atK g c a = 1
        · rw [shadeC_yes hk]
          by_cases h4 : c.work.length < 4
          · rw [if_pos h4]
            cases c.over <;> simp
          · rw [if_neg h4]
            cases c.over <;> simp <;> omega
        · rw [shadeC_no hk]
          cases c.over <;> simp <;> omega
      show AIf ((((shadeG g c a).w.length : Int) != (g.w.length : Int)) = false ∧ True) _ _
      refine ⟨fun _ => ?_, fun h => absurd ⟨by rw [e4]; simp, trivial⟩ h⟩
      show ACall _ _ _ _ _ _
      refine call_ret (White_spec (shadeG g c a) (shadeC g c a) a hl') rfl ?_
      rw [hwh]
      show AIf _ _ _
      refine ⟨fun _ => ?_, fun h => absurd ⟨rfl, trivial⟩ h⟩
      show ACall _ _ _ _ _ _
      refine call_ret (slisted_spec g c hl) rfl ?_
      cases hli : listedK g c with
      | false =>
        show AIf _ _ _
        refine ⟨fun h => absurd h.1 (by decide), fun _ => ?_⟩
        show AOb _ _
        refine ⟨by simp, ?_⟩
        show ABr (bif (bif !true then true else (bif c.over then !(shadeC g c a).over else false)) then true else decide (((shadeC g c a).work.length : Int) > IntKind.i64.wrap ((c.work.length : Int) + 1))) _ _
        rw [hcond]
        show ABr _ _ _
        refine ⟨fun h => absurd h (by decide), fun _ => ?_⟩
        show ACall _ _ _ _ _ _
        refine call_ret (White_spec g c a hl) rfl ?_
        obtain ⟨g', hg⟩ : ∃ g', g' = shadeG g c a := ⟨_, rfl⟩
        obtain ⟨c', hc⟩ : ∃ c', c' = shadeC g c a := ⟨_, rfl⟩
        have hwd := shadeG_word g c a
        have hagk : atK g' c' a ≠ 1 := by rw [hg, hc]; have := of_decide_eq_false hwh; exact this
        have hmk : mayH g' [] = true := by rw [hg, shadeG_may]; exact hm
        have hs' : g'.small := few_small (by rw [hg, shadeG_few]; exact hf'.1)
        have hw' : c'.work.length < most := by
          rw [hc]
          by_cases hk : atK g c a = 1
          · rw [shadeC_yes hk]
            by_cases h4 : c.work.length < 4
            · rw [if_pos h4]; show (c.work ++ [a]).length < most; rw [List.length_append]; unfold most; simp; omega
            · rw [if_neg h4]; exact hw
          · rw [shadeC_no hk]; exact hw
        rw [← hg] at e4 hwd hl' ⊢
        rw [← hc]
        show ∃ n, _
        refine ⟨0, ALoop.inv (ι := {i : Nat // i ≤ g.w.length}) (fun q => ⟨[(2, .int (a)), (3, .c (.d (.rp (g.enc)))), (9, .c (.d (.rp (g'.enc)))), (10, .c (.d (.rp (c'.enc)))), (11, .bo (whiteH g c a)), (12, .int (q.1))], [], 32⟩) (fun q => g.w.length - q.1) ⟨0, Nat.zero_le _⟩ ?_ ?_⟩
        · exact ⟨[], (by repeat' first | exact .nil | refine .cons _ _ _ ?_ ?_ | exact .same | exact .c _ _ (.own _ _ rfl) | exact .c _ _ (.ptr _ _ _ _ rfl) | exact .c _ _ (.frz _ _ rfl) | exact .any _), (by exact .nil), (by rfl)⟩
        rintro ⟨i, hi⟩
        show ABr (decide ((i : Int) < (g.w.length : Int))) _ _
        refine ⟨fun h => ?_, fun h => ?_⟩
        · have hlt : i < g.w.length := by simpa using h
          have wi : IntKind.i64.wrap ((i : Int) + 1) = ((i + 1 : Nat) : Int) := wrapP (i := i) (by have := hs.1; unfold most at this; unfold maxN; omega)
          show AOb ((0 : Int) ≤ (i : Int) ∧ (i : Int) < (g'.w.length : Int)) _
          refine ⟨by omega, ?_⟩
          show AOb ((0 : Int) ≤ (i : Int) ∧ (i : Int) < (g.w.length : Int)) _
          refine ⟨by omega, ?_⟩
          show ABr (g'.w.getD i default != g.w.getD i default) _ _
          refine ⟨fun h => ?_, fun h => ?_⟩
          · obtain ⟨h1, h2⟩ := hwd i (bne_iff_ne.1 h)
            have hwt : whiteH g c a = true := decide_eq_true h2
            have had := room_adr (h := g) (mark_may h2).2.1.room
            show ABr (!whiteH g c a) _ _
            refine ⟨fun h => absurd h (by rw [hwt]; decide), fun _ => ?_⟩
            have hne : ((i : Int) != IntKind.i64.wrap (a - 16)) = false := by
              have h3 := had.1; have h4 := had.2
              rw [wrap64 (by omega) (by have := hs.1; unfold most at this; omega), h1]
              simp
            show ABr ((i : Int) != IntKind.i64.wrap (a - 16)) _ _
            rw [hne]
            show ABr _ _ _
            refine ⟨fun h => absurd h (by decide), fun _ => ?_⟩
            show ARound _ _ _ _
            exact ⟨⟨i + 1, hlt⟩, (by dsimp only; omega), [], (by repeat' first | exact .nil | refine .cons _ _ _ ?_ ?_ | exact .int_eq wi | exact .same | exact .c _ _ (.own _ _ rfl) | exact .c _ _ (.ptr _ _ _ _ rfl) | exact .c _ _ (.frz _ _ rfl) | exact .any _), (by exact .nil), (by rfl)⟩
          · show ABr _ _ _
            refine ⟨fun h => absurd h (by decide), fun _ => ?_⟩
            show ARound _ _ _ _
            exact ⟨⟨i + 1, hlt⟩, (by dsimp only; omega), [], (by repeat' first | exact .nil | refine .cons _ _ _ ?_ ?_ | exact .int_eq wi | exact .same | exact .c _ _ (.own _ _ rfl) | exact .c _ _ (.ptr _ _ _ _ rfl) | exact .c _ _ (.frz _ _ rfl) | exact .any _), (by exact .nil), (by rfl)⟩
        show ACall _ _ _ _ _ _
        refine call_ret (Shade_spec g' c' a hl' hs' hw') rfl ?_
        rw [shadeG_no hagk, shadeC_no hagk]
        show ACall _ _ _ _ _ _
        refine call_ret (hHMay0_spec g' hl') rfl ?_
        rw [hmk]
        show AIf _ _ _
        refine ⟨fun _ => ?_, fun h => absurd ⟨rfl, trivial⟩ h⟩
        show ACall _ _ _ _ _ _
        refine call_ret (hSame_spec g' g') rfl ?_
        rw [decide_eq_true rfl]
        show AIf _ _ _
        refine ⟨fun _ => ?_, fun h => absurd ⟨rfl, trivial⟩ h⟩
        show ACall _ _ _ _ _ _
        refine call_ret (cSame_spec c' c') rfl ?_
        rw [decide_eq_true rfl]
        show ARet _ _ _
        exact ret_d rfl ⟨rfl, rfl⟩
      | true =>
        have hli' := listed_shade (a := a) hli
        show AIf _ _ _
        refine ⟨fun _ => ?_, fun h => absurd ⟨rfl, rfl, trivial⟩ h⟩
        show ACall _ _ _ _ _ _
        refine call_ret (slisted_spec (shadeG g c a) (shadeC g c a) hl') rfl ?_
        rw [hli']
        show ABr (bif (bif !true then true else (bif c.over then !(shadeC g c a).over else false)) then true else decide (((shadeC g c a).work.length : Int) > IntKind.i64.wrap ((c.work.length : Int) + 1))) _ _
        rw [hcond]
        show ABr _ _ _
        refine ⟨fun h => absurd h (by decide), fun _ => ?_⟩
        show ACall _ _ _ _ _ _
        refine call_ret (White_spec g c a hl) rfl ?_
        obtain ⟨g', hg⟩ : ∃ g', g' = shadeG g c a := ⟨_, rfl⟩
        obtain ⟨c', hc⟩ : ∃ c', c' = shadeC g c a := ⟨_, rfl⟩
        have hwd := shadeG_word g c a
        have hagk : atK g' c' a ≠ 1 := by rw [hg, hc]; have := of_decide_eq_false hwh; exact this
        have hmk : mayH g' [] = true := by rw [hg, shadeG_may]; exact hm
        have hs' : g'.small := few_small (by rw [hg, shadeG_few]; exact hf'.1)
        have hw' : c'.work.length < most := by
          rw [hc]
          by_cases hk : atK g c a = 1
          · rw [shadeC_yes hk]
            by_cases h4 : c.work.length < 4
            · rw [if_pos h4]; show (c.work ++ [a]).length < most; rw [List.length_append]; unfold most; simp; omega
            · rw [if_neg h4]; exact hw
          · rw [shadeC_no hk]; exact hw
        rw [← hg] at e4 hwd hl' ⊢
        rw [← hc]
        show ∃ n, _
        refine ⟨0, ALoop.inv (ι := {i : Nat // i ≤ g.w.length}) (fun q => ⟨[(2, .int (a)), (3, .c (.d (.rp (g.enc)))), (9, .c (.d (.rp (g'.enc)))), (10, .c (.d (.rp (c'.enc)))), (11, .bo (whiteH g c a)), (12, .int (q.1))], [], 32⟩) (fun q => g.w.length - q.1) ⟨0, Nat.zero_le _⟩ ?_ ?_⟩
        · exact ⟨[], (by repeat' first | exact .nil | refine .cons _ _ _ ?_ ?_ | exact .same | exact .c _ _ (.own _ _ rfl) | exact .c _ _ (.ptr _ _ _ _ rfl) | exact .c _ _ (.frz _ _ rfl) | exact .any _), (by exact .nil), (by rfl)⟩
        rintro ⟨i, hi⟩
        show ABr (decide ((i : Int) < (g.w.length : Int))) _ _
        refine ⟨fun h => ?_, fun h => ?_⟩
        · have hlt : i < g.w.length := by simpa using h
          have wi : IntKind.i64.wrap ((i : Int) + 1) = ((i + 1 : Nat) : Int) := wrapP (i := i) (by have := hs.1; unfold most at this; unfold maxN; omega)
          show AOb ((0 : Int) ≤ (i : Int) ∧ (i : Int) < (g'.w.length : Int)) _
          refine ⟨by omega, ?_⟩
          show AOb ((0 : Int) ≤ (i : Int) ∧ (i : Int) < (g.w.length : Int)) _
          refine ⟨by omega, ?_⟩
          show ABr (g'.w.getD i default != g.w.getD i default) _ _
          refine ⟨fun h => ?_, fun h => ?_⟩
          · obtain ⟨h1, h2⟩ := hwd i (bne_iff_ne.1 h)
            have hwt : whiteH g c a = true := decide_eq_true h2
            have had := room_adr (h := g) (mark_may h2).2.1.room
            show ABr (!whiteH g c a) _ _
            refine ⟨fun h => absurd h (by rw [hwt]; decide), fun _ => ?_⟩
            have hne : ((i : Int) != IntKind.i64.wrap (a - 16)) = false := by
              have h3 := had.1; have h4 := had.2
              rw [wrap64 (by omega) (by have := hs.1; unfold most at this; omega), h1]
              simp
            show ABr ((i : Int) != IntKind.i64.wrap (a - 16)) _ _
            rw [hne]
            show ABr _ _ _
            refine ⟨fun h => absurd h (by decide), fun _ => ?_⟩
            show ARound _ _ _ _
            exact ⟨⟨i + 1, hlt⟩, (by dsimp only; omega), [], (by repeat' first | exact .nil | refine .cons _ _ _ ?_ ?_ | exact .int_eq wi | exact .same | exact .c _ _ (.own _ _ rfl) | exact .c _ _ (.ptr _ _ _ _ rfl) | exact .c _ _ (.frz _ _ rfl) | exact .any _), (by exact .nil), (by rfl)⟩
          · show ABr _ _ _
            refine ⟨fun h => absurd h (by decide), fun _ => ?_⟩
            show ARound _ _ _ _
            exact ⟨⟨i + 1, hlt⟩, (by dsimp only; omega), [], (by repeat' first | exact .nil | refine .cons _ _ _ ?_ ?_ | exact .int_eq wi | exact .same | exact .c _ _ (.own _ _ rfl) | exact .c _ _ (.ptr _ _ _ _ rfl) | exact .c _ _ (.frz _ _ rfl) | exact .any _), (by exact .nil), (by rfl)⟩
        show ACall _ _ _ _ _ _
        refine call_ret (Shade_spec g' c' a hl' hs' hw') rfl ?_
        rw [shadeG_no hagk, shadeC_no hagk]
        show ACall _ _ _ _ _ _
        refine call_ret (hHMay0_spec g' hl') rfl ?_
        rw [hmk]
        show AIf _ _ _
        refine ⟨fun _ => ?_, fun h => absurd ⟨rfl, trivial⟩ h⟩
        show ACall _ _ _ _ _ _
        refine call_ret (hSame_spec g' g') rfl ?_
        rw [decide_eq_true rfl]
        show AIf _ _ _
        refine ⟨fun _ => ?_, fun h => absurd ⟨rfl, trivial⟩ h⟩
        show ACall _ _ _ _ _ _
        refine call_ret (cSame_spec c' c') rfl ?_
        rw [decide_eq_true rfl]
        show ARet _ _ _
        exact ret_d rfl ⟨rfl, rfl⟩
end Go.Abs
