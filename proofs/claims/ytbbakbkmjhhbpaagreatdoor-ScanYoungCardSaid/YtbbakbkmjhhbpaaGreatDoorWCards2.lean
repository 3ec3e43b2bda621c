/- Walks: the objects of a card. -/
import Derived.Test.YtbbakbkmjhhbpaaGreatDoorWCards
set_option linter.all false
set_option linter.unusedVariables false
set_option linter.unusedSimpArgs false
namespace Go.Abs
open Go.Proofs Go.Proofs.YtbbakbkmjhhbpaaGreatDoor
set_option maxRecDepth 8000

def onTo (g : Hp) (c : Int) (n : Nat) : List Int := ((List.range n).map fun i : Nat => 16 + c * 8 + (i : Int)).filter fun a => (usedH g).contains a
/-- The objects that begin on a card. -/
def onH (g : Hp) (c : Int) : List Int := bif decide (0 ≤ c ∧ c < (g.cards.length : Int)) then onTo g c 8 else []
def nextO (g : Hp) (c a : Int) : Option Int := (onH g c).find? fun b => decide (a < b) && (headH g b).old

theorem onTo_succ (g : Hp) (c : Int) (n : Nat) : onTo g c (n + 1) = onTo g c n ++ (bif (usedH g).contains (16 + c * 8 + (n : Int)) then [16 + c * 8 + (n : Int)] else []) := by
  unfold onTo
  rw [List.range_succ, List.map_append, List.filter_append]
  have e : ([16 + c * 8 + (n : Int)] : List Int).filter (fun a => (usedH g).contains a) = bif (usedH g).contains (16 + c * 8 + (n : Int)) then [16 + c * 8 + (n : Int)] else [] := by
    rw [List.filter_cons, List.filter_nil]
    cases (usedH g).contains (16 + c * 8 + (n : Int)) <;> rfl
  rw [← e]
  rfl

theorem onTo_len (g : Hp) (c : Int) (n : Nat) : (onTo g c n).length ≤ n := by
  unfold onTo
  refine Nat.le_trans (List.length_filter_le _ _) ?_
  simp

theorem On_spec (g : Hp) (c : Int) (hl : g.light) : Spec X 65 [] [g.tv, .int c] (Ret [] (.c (.d (.sl .int (onH g c))))) := by
  refine spec_go X_ok Tryz.f65 (by kernel_rfl) (by kernel_rfl) (by kernel_rfl) fun hb hH => ⟨rfl, ?_⟩
  have hlc : g.cards.length ≤ maxN := ((hb (g.tv) (by simp)) (.d (.sl .bool g.cards)) (by simp [Hp.enc])).1
  unfold maxN at hlc
  have hcond : (bif decide (c < 0) then true else decide (c ≥ (g.cards.length : Int))) = !decide (0 ≤ c ∧ c < (g.cards.length : Int)) := by
    by_cases h1 : c < 0
    · rw [decide_eq_true h1, decide_eq_false (p := 0 ≤ c ∧ c < (g.cards.length : Int)) (by omega)]; rfl
    · rw [decide_eq_false h1]
      by_cases h2 : c ≥ (g.cards.length : Int)
      · rw [decide_eq_true h2, decide_eq_false (p := 0 ≤ c ∧ c < (g.cards.length : Int)) (by omega)]; rfl
      · rw [decide_eq_false h2, decide_eq_true (p := 0 ≤ c ∧ c < (g.cards.length : Int)) (by omega)]; rfl
  unfold onH
  show ABr (bif decide (c < 0) then true else decide (c ≥ (g.cards.length : Int))) _ _
  rw [hcond]
  cases hin : decide (0 ≤ c ∧ c < (g.cards.length : Int)) with
  | false =>
    show ABr _ _ _
    refine ⟨fun _ => ?_, fun h => absurd h (by decide)⟩
    show ARet _ _ _
    exact ret1 (.nilsl rfl) ⟨rfl, rfl⟩
  | true =>
    have hin := of_decide_eq_true hin
    show ABr _ _ _
    refine ⟨fun h => absurd h (by decide), fun _ => ?_⟩
    show ACall _ _ _ _ _ _
    refine call_ret (hUsed_spec g hl) rfl ?_
    show ∃ n, _
    refine ⟨0, ALoop.inv (ι := {i : Nat // i ≤ 8}) (fun i => ⟨[(1, .int c), (5, .c (.d (.sl .int (usedH g)))), (6, .c (.own 1)), (20, .int i.1)], [(1, .data .int (onTo g c i.1))], 64⟩) (fun i => 8 - i.1) ⟨0, Nat.zero_le _⟩ ?_ ?_⟩
    · exact ⟨[], .cons _ _ _ .same (.cons _ _ _ .same (.cons _ _ _ (.c _ _ (.nilown 1 .int rfl rfl)) (.cons _ _ _ .same .nil))), .new 1 .int _ rfl .nil, rfl⟩
    · rintro ⟨i, hi⟩
      show ABr (decide ((i : Int) < 8)) _ _
      refine ⟨fun h => ?_, fun h => ?_⟩
      · have hlt : i < 8 := by have := of_decide_eq_true h; omega
        have w1 : IntKind.i64.wrap (c * 8) = c * 8 := wrap64 (by omega) (by omega)
        have w2 : IntKind.i64.wrap (16 + c * 8) = 16 + c * 8 := wrap64 (by omega) (by omega)
        have w3 : IntKind.i64.wrap (16 + c * 8 + (i : Int)) = 16 + c * 8 + (i : Int) := wrap64 (by omega) (by omega)
        have wi : IntKind.i64.wrap ((i : Int) + 1) = ((i + 1 : Nat) : Int) := by rw [wrap64 (by omega) (by omega)]; rfl
        have hs := onTo_succ g c i
        have hlen := onTo_len g c i
        show ACall _ _ [_, .int (IntKind.i64.wrap (IntKind.i64.wrap (16 + IntKind.i64.wrap (c * 8)) + (i : Int)))] _ _ _
        rw [w1, w2, w3]
        refine call_ret (Contains_spec (usedH g) (16 + c * 8 + (i : Int))) rfl ?_
        show ABr ((usedH g).contains (16 + c * 8 + (i : Int))) _ _
        refine ⟨fun h => ?_, fun h => ?_⟩
        · rw [h] at hs
          show AOb ((onTo g c i).length + 1 ≤ most) _
          refine ⟨by unfold most; omega, ?_⟩
          show ARound _ _ _ _
          exact ⟨⟨i + 1, hlt⟩, by show 8 - (i + 1) < 8 - i; omega, [(_, 1)], .cons _ _ _ .same (.cons _ _ _ .same (.cons _ _ _ (.c _ _ (.own1 _ _)) (.cons _ _ _ (.int_eq wi) .nil))), .old 1 _ _ _ _ rfl rfl (.data_eq hs.symm) .nil, rfl⟩
        · rw [h] at hs
          show ARound _ _ _ _
          exact ⟨⟨i + 1, hlt⟩, by show 8 - (i + 1) < 8 - i; omega, [(1, 1)], .cons _ _ _ .same (.cons _ _ _ .same (.cons _ _ _ (.c _ _ (.own1 _ _)) (.cons _ _ _ (.int_eq wi) .nil))), .old 1 1 _ _ _ rfl rfl (.data_eq (by rw [hs]; exact (List.append_nil _).symm)) .nil, rfl⟩
      · have hge : i = 8 := by have := of_decide_eq_false h; omega
        subst hge
        show ARet _ _ _
        exact ret1 (.frz (k := .int) (l := onTo g c 8) rfl rfl) ⟨rfl, rfl⟩

theorem cNext_spec (g : Hp) (c a : Int) (hl : g.light) : Spec X 31 [] [g.tv, .int c, .int a] (Ret [] (.tup [.int ((nextO g c a).getD 0), .bo (nextO g c a).isSome])) := by
  refine spec_go X_ok Tryz.f31 (by kernel_rfl) (by kernel_rfl) (by kernel_rfl) fun hb hH => ⟨rfl, ?_⟩
  show ACall _ _ _ _ _ _
  refine call_ret (On_spec g c hl) rfl ?_
  obtain ⟨O, hO⟩ : ∃ O, O = onH g c := ⟨_, rfl⟩
  have hlen : O.length ≤ 8 := by
    rw [hO]
    unfold onH
    cases decide (0 ≤ c ∧ c < (g.cards.length : Int))
    · exact Nat.zero_le _
    · exact onTo_len g c 8
  rw [← hO]
  obtain ⟨o, ho⟩ : ∃ o, o = nextO g c a := ⟨_, rfl⟩
  rw [← ho]
  show ∃ n, _
  refine ⟨0, ALoop.inv (ι := {i : Nat // i ≤ O.length ∧ nextO g c a = (O.drop i).find? fun b => decide (a < b) && (headH g b).old}) (fun i => ⟨[(2, .int a), (3, .c (.d (.rp g.enc))), (14, .c (.d (.sl .int O))), (15, .int O.length), (16, .int i.1)], [], 64⟩) (fun i => O.length - i.1) ⟨0, Nat.zero_le _, by unfold nextO; rw [← hO]; rfl⟩ ?_ ?_⟩
  · exact ⟨[], .cons _ _ _ .same (.cons _ _ _ (.c _ _ (.frz _ _ rfl)) (.cons _ _ _ .same (.cons _ _ _ .same (.cons _ _ _ .same .nil)))), .nil, rfl⟩
  · rintro ⟨i, hi, he⟩
    show ABr (decide ((i : Int) < (O.length : Int))) _ _
    refine ⟨fun h => ?_, fun h => ?_⟩
    · have hlt : i < O.length := by simpa using h
      have wi : IntKind.i64.wrap ((i : Int) + 1) = ((i + 1 : Nat) : Int) := wrapP (i := i) (by unfold maxN; omega)
      obtain ⟨b, hbb⟩ : ∃ b, b = O.getD i default := ⟨_, rfl⟩
      have hd : O.drop i = b :: O.drop (i + 1) := by rw [hbb]; exact drop_at0 hlt
      rw [hd, List.find?_cons] at he
      show AOb ((0 : Int) ≤ (i : Int) ∧ (i : Int) < (O.length : Int)) _
      refine ⟨by omega, ?_⟩
      show ABr (decide (O.getD i default ≤ a)) _ _
      rw [← hbb]
      refine ⟨fun h => ?_, fun h => ?_⟩
      · have hle := of_decide_eq_true h
        rw [decide_eq_false (by omega)] at he
        show ARound _ _ _ _
        exact ⟨⟨i + 1, hlt, he⟩, by show O.length - (i + 1) < O.length - i; omega, [], .cons _ _ _ .same (.cons _ _ _ .same (.cons _ _ _ .same (.cons _ _ _ .same (.cons _ _ _ (.int_eq wi) .nil)))), .nil, rfl⟩
      · have hgt := of_decide_eq_false h
        rw [decide_eq_true (by omega)] at he
        show ACall _ _ [_, .int (O.getD i default)] _ _ _
        rw [← hbb]
        refine call_ret (hHead_spec g b hl) rfl ?_
        show ABr (headH g b).old _ _
        refine ⟨fun h => ?_, fun h => ?_⟩
        · rw [h] at he
          have e1 : o = some b := ho.trans he
          subst e1 hbb
          show ARet _ _ _
          exact ret_d rfl ⟨rfl, rfl⟩
        · rw [h] at he
          show ARound _ _ _ _
          exact ⟨⟨i + 1, hlt, he⟩, by show O.length - (i + 1) < O.length - i; omega, [], .cons _ _ _ .same (.cons _ _ _ .same (.cons _ _ _ .same (.cons _ _ _ .same (.cons _ _ _ (.int_eq wi) .nil)))), .nil, rfl⟩
    · have hge : i = O.length := by simp at h; omega
      rw [hge, List.drop_length] at he
      have e1 : o = none := ho.trans he
      subst e1
      show ARet _ _ _
      exact ret_d rfl ⟨rfl, rfl⟩
end Go.Abs
