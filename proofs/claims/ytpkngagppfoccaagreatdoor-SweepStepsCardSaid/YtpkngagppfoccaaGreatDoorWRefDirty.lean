/- Walks: the document's cards: which one, made dirty, made clean. -/
import Derived.Test.YtpkngagppfoccaaGreatDoorWRefOwn
import Derived.Test.YtpkngagppfoccaaGreatDoorWRef07
set_option linter.all false
set_option linter.unusedVariables false
set_option linter.unusedSimpArgs false
namespace Go.Abs
open Go.Proofs Go.Proofs.YtpkngagppfoccaaGreatDoor
set_option maxRecDepth 8000

theorem rIs2_spec (w : List Int) (a : Int) : Spec X 105 [] [.c (.d (.sl .int w)), .int a] (Ret [] (.bo (decide (16 ≤ a ∧ a < 16 + (w.length : Int))))) := by
  refine spec_go X_ok Tryz.f105 (by kernel_rfl) (by kernel_rfl) (by kernel_rfl) fun hb hH => ⟨rfl, ?_⟩
  have hla : w.length ≤ maxN := (hb (.c (.d (.sl .int w))) (by simp)).1
  unfold maxN at hla
  have w1 : IntKind.i64.wrap (16 + (w.length : Int)) = 16 + (w.length : Int) := wrap64 (by omega) (by omega)
  show ARet _ _ _
  refine ret_bo (x := bif decide (a ≥ 16) then decide (a < IntKind.i64.wrap (16 + (w.length : Int))) else false) ?_ ⟨rfl, rfl⟩
  rw [w1, decide_and']
  cases decide (a ≥ 16) <;> rfl

theorem rOf10_spec (g : Hp) (a : Int) (hl : g.light) (hw : ∀ x ∈ g.w, I64 x) : Spec X 78 [] [g.tv, .int a] (Ret [] (.tup [.int (cardOf g a), .int (cardE g a)])) := by
  refine spec_go X_ok Tryz.f78 (by kernel_rfl) (by kernel_rfl) (by kernel_rfl) fun hb hH => ⟨rfl, ?_⟩
  show ACall _ _ _ _ _ _
  refine call_ret (rMay70_spec g hl hw) rfl ?_
  cases hm : mayH g [] with
  | false =>
    have hE : cardE g a = 1 := by unfold cardE; rw [hm]; rfl
    rw [cardOf_no (by rw [hE]; decide), hE]
    show ABr _ _ _
    refine ⟨fun _ => ?_, fun h => absurd h (by decide)⟩
    show ARet _ _ _
    exact ret_d rfl ⟨rfl, rfl⟩
  | true =>
    show ABr _ _ _
    refine ⟨fun h => absurd h (by decide), fun _ => ?_⟩
    obtain ⟨_, _, hsl, _, _, h64⟩ := shapedH_of (mayH_shaped hm)
    show ACall _ _ _ _ _ _
    refine call_ret (rIs2_spec g.w a) rfl ?_
    by_cases hin : 16 ≤ a ∧ a < 16 + (g.w.length : Int)
    · rw [decide_eq_true hin]
      show ABr _ _ _
      refine ⟨fun h => absurd h (by decide), fun _ => ?_⟩
      have hE := cardE_mk hm hin
      rw [cardOf_yes hE, hE]
      show ∃ n, _
      refine ⟨0, ALoop.inv (ι := {n : Nat // 16 + 8 * (n : Int) ≤ a}) (fun q => ⟨[(1, .int (a)), (7, .int (q.1))], [], 32⟩) (fun q => (a - (16 + 8 * (q.1 : Int))).toNat) ⟨0, by omega⟩ ?_ ?_⟩
      · exact ⟨[], (by repeat' first | exact .nil | refine .cons _ _ _ ?_ ?_ | exact .same | exact .c _ _ (.own _ _ rfl) | exact .c _ _ (.ptr _ _ _ _ rfl) | exact .c _ _ (.frz _ _ rfl) | exact .any _), (by exact .nil), (by rfl)⟩
      rintro ⟨n, hn⟩
      have hn : 16 + 8 * (n : Int) ≤ a := hn
      have w1 : IntKind.i64.wrap (8 * (n : Int)) = 8 * (n : Int) := wrap64 (by omega) (by omega)
      have w2 : IntKind.i64.wrap (24 + 8 * (n : Int)) = 24 + 8 * (n : Int) := wrap64 (by omega) (by omega)
      have wn : IntKind.i64.wrap ((n : Int) + 1) = ((n + 1 : Nat) : Int) := wrapP (i := n) (by unfold maxN; omega)
      show ABr (decide (IntKind.i64.wrap (24 + IntKind.i64.wrap (8 * (n : Int))) ≤ a)) _ _
      rw [w1, w2]
      refine ⟨fun h => ?_, fun h => ?_⟩
      · have h := of_decide_eq_true h
        show ARound _ _ _ _
        exact ⟨⟨n + 1, by omega⟩, (by dsimp only; omega), [], (by repeat' first | exact .nil | refine .cons _ _ _ ?_ ?_ | exact .int_eq wn | exact .same | exact .c _ _ (.own _ _ rfl) | exact .c _ _ (.ptr _ _ _ _ rfl) | exact .c _ _ (.frz _ _ rfl) | exact .any _), (by exact .nil), (by rfl)⟩
      · have h := of_decide_eq_false h
        rw [show (a - 16) / 8 = (n : Int) by omega]
        show ARet _ _ _
        exact ret_d rfl ⟨rfl, rfl⟩
    · rw [decide_eq_false hin]
      have hE : cardE g a = 3 := by unfold cardE; rw [hm, decide_eq_false hin]; rfl
      rw [cardOf_no (by rw [hE]; decide), hE]
      show ABr _ _ _
      refine ⟨fun _ => ?_, fun h => absurd h (by decide)⟩
      show ARet _ _ _
      exact ret_d rfl ⟨rfl, rfl⟩



theorem rDirty_spec (g : Hp) (a : Int) (hl : g.light) (hs : g.small) (hw : ∀ x ∈ g.w, I64 x) : Spec X 38 [] [g.tv, .int a] (Ret [] (.tup [(dirtyH g a).tv, .int (cardE g a)])) := by
  refine spec_go X_ok Tryz.f38 (by kernel_rfl) (by kernel_rfl) (by kernel_rfl) fun hb hH => ⟨rfl, ?_⟩
  show ACall _ _ _ _ _ _
  refine call_ret (rOf10_spec g a hl hw) rfl ?_
  by_cases h0 : cardE g a = 0
  · have hci := card_in h0
    rw [dirtyH_yes h0, h0]
    generalize cardOf g a = i at *
    show ABr _ _ _
    refine ⟨fun h => absurd h (by decide), fun _ => ?_⟩
    show ACall _ _ _ _ _ _
    refine .mk _ (rOwn7_spec g hs) fun H r hq _ _ => ?_
    obtain ⟨rfl, rfl⟩ := hq
    refine ⟨.inl rfl, ?_⟩
    show AOb ((0 : Int) ≤ i ∧ i < (g.cards.length : Int)) _
    refine ⟨hci, ?_⟩
    show AOb (i.toNat < g.cards.length) _
    refine ⟨by omega, ?_⟩
    show ARet _ _ _
    exact ⟨[], [], [(cset g i true).tv, .int 0], .cons _ _ _ _ (.agg _ _ (.cons _ _ _ _ (.frz_eq (k := .int) (l := g.w) rfl rfl) (.cons _ _ _ _ (.frz_eq (k := .page) (l := g.pages) rfl rfl) (.cons _ _ _ _ (.d _) (.cons _ _ _ _ (.d _) (.cons _ _ _ _ (.d _) (.cons _ _ _ _ (.frz_eq (k := .bool) (l := g.cards.set i.toNat true) rfl rfl) .nil))))))) (.cons _ _ _ _ .same .nil), .nil, rfl, rfl, rfl⟩
  · rw [dirtyH_no h0]
    show ABr _ _ _
    refine ⟨fun _ => ?_, fun h => absurd h (by simpa using h0)⟩
    show ARet _ _ _
    exact ⟨[], [], _, .cons _ _ _ _ (.agg _ _ (.cons _ _ _ _ (.nilsl .int) (.cons _ _ _ _ (.nilsl .page) (.cons _ _ _ _ (.nilsl .int) (.cons _ _ _ _ (.nilsl .int) (.cons _ _ _ _ (.nilsl .int) (.cons _ _ _ _ (.nilsl .bool) .nil))))))) (.cons _ _ _ _ .same .nil), .nil, rfl, rfl, rfl⟩

end Go.Abs
