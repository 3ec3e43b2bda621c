/- Walks: what is dirtied is dirty, what is cleaned is clean; all other cards are as they were, and so are all words. -/
import Derived.Test.YtkalcaokmadpjaaDoorWCards2
set_option linter.all false
set_option linter.unusedVariables false
set_option linter.unusedSimpArgs false
namespace Go.Abs
open Go.Proofs Go.Proofs.YtkalcaokmadpjaaDoor
set_option maxRecDepth 8000

theorem cset_get (g : Hp) (c : Int) (b : Bool) (i : Nat) (hc : 0 ≤ c ∧ c < (g.cards.length : Int)) : (cset g c b).cards.getD i default = if (i : Int) = c then b else g.cards.getD i default := by
  show (g.cards.set c.toNat b).getD i default = _
  rw [List.getD_eq_getElem?_getD, List.getD_eq_getElem?_getD, List.getElem?_set]
  by_cases h : (i : Int) = c
  · rw [if_pos (by omega), if_pos (by omega), if_pos h]; rfl
  · rw [if_neg (by omega), if_neg h]

theorem dirty_cset {g : Hp} {a : Int} (h : cardE g a = 0) (b : Bool) : isDirty (cset g (cardOf g a) b) a = b := by
  have hc := card_in h
  unfold isDirty
  rw [cardE_cset, h, cardOf_cset]
  show (true && (g.cards.set (cardOf g a).toNat b).getD (cardOf g a).toNat false) = b
  rw [List.getD_eq_getElem?_getD, List.getElem?_set, if_pos rfl, if_pos (by omega)]
  simp

theorem cleanE_card {g : Hp} {a : Int} (h : cardE g a = 0) : cleanE g (cardOf g a) = 0 := by
  unfold cleanE
  rw [(cardE_of h).1, decide_eq_true (card_in h)]
  rfl

theorem CardsKeep_spec (g : Hp) (a : Int) (ha : a < 9223372036854775808) : Spec X 9 [] [g.tv, .int a] (Ret [] (.bo true)) := by
  refine spec_go X_ok Tryd.f9 (by kernel_rfl) (by kernel_rfl) (by kernel_rfl) fun hb hH => ⟨rfl, ?_⟩
  show ACall _ _ _ _ _ _
  refine call_ret (awake10_spec) rfl ?_
  show ACall _ _ _ _ _ _
  refine call_ret (Few_spec g) rfl ?_
  cases hf : fewH g with
  | false =>
    show ABr _ _ _
    refine ⟨fun _ => ?_, fun h => absurd h (by decide)⟩
    show ARet _ _ _
    exact ret_d rfl ⟨rfl, rfl⟩
  | true =>
    have hl := few_light hf
    have hlc : g.cards.length ≤ 20 := (of_decide_eq_true hf).2.2.1
    show ABr _ _ _
    refine ⟨fun h => absurd h (by decide), fun _ => ?_⟩
    show ACall _ _ _ _ _ _
    refine call_ret (cOf10_spec g a hl ha) rfl ?_
    show ABr (cardE g a != 0) _ _
    refine ⟨fun h => ?_, fun h => ?_⟩
    · have hE : cardE g a ≠ 0 := by simpa using h
      rw [cardOf_no hE]
      show AIf _ _ _
      refine ⟨fun _ => ?_, fun h => absurd ⟨rfl, trivial⟩ h⟩
      show ACall _ _ _ _ _ _
      refine call_ret (Is_spec g a hl ha) rfl ?_
      rw [show isDirty g a = false from by unfold isDirty; rw [decide_eq_false hE]; rfl]
      show ARet _ _ _
      exact ret_d rfl ⟨rfl, rfl⟩
    · have hE : cardE g a = 0 := by simpa using h
      have hc := card_in hE
      obtain ⟨n, hn⟩ : ∃ n, n = cardOf g a := ⟨_, rfl⟩
      have hlB : (cset g n true).light := hl
      have hlC : (cset (cset g n true) n false).light := hl
      have hCE : cleanE (cset g n true) n = 0 := by rw [cleanE_cset, hn]; exact cleanE_card hE
      have hB := dirtyH_yes hE
      have hC := cleanH_yes hCE
      have d1 : isDirty (cset g n true) a = true := by rw [hn]; exact dirty_cset hE true
      have d2 : isDirty (cset (cset g n true) n false) a = false := by
        have := dirty_cset (g := cset g n true) (a := a) (by rw [cardE_cset]; exact hE) false
        rw [cardOf_cset, ← hn] at this
        exact this
      rw [← hn] at hB hc ⊢
      show ACall _ _ _ _ _ _
      refine call_ret (Dirty_spec g a hl ha) rfl ?_
      rw [hB, hE]
      show ACall _ _ _ _ _ _
      refine call_ret (Clean_spec (cset g n true) n hlB) rfl ?_
      rw [hC, hCE]
      show AIf _ _ _
      refine ⟨fun _ => ?_, fun h => absurd ⟨rfl, trivial⟩ h⟩
      show ACall _ _ _ _ _ _
      refine call_ret (Is_spec (cset g n true) a hlB ha) rfl ?_
      rw [d1]
      show AIf _ _ _
      refine ⟨fun _ => ?_, fun h => absurd ⟨rfl, trivial⟩ h⟩
      show ACall _ _ _ _ _ _
      refine call_ret (Is_spec (cset (cset g n true) n false) a hlC ha) rfl ?_
      rw [d2]
      have lB := cset_len g n true
      have lC : (cset (cset g n true) n false).cards.length = g.cards.length := by rw [cset_len, cset_len]
      show ABr (bif (bif false then true else ((cset g n true).cards.length : Int) != (g.cards.length : Int)) then true else ((cset (cset g n true) n false).cards.length : Int) != (g.cards.length : Int)) _ _
      refine ⟨fun h => ?_, fun _ => ?_⟩
      · rw [lB, lC] at h
        simp at h
      obtain ⟨B, hBB⟩ : ∃ B, B = cset g n true := ⟨_, rfl⟩
      obtain ⟨C, hCC⟩ : ∃ C, C = cset B n false := ⟨_, rfl⟩
      have gB : ∀ i : Nat, B.cards.getD i default = if (i : Int) = n then true else g.cards.getD i default := fun i => by rw [hBB]; exact cset_get g n true i hc
      have gC : ∀ i : Nat, C.cards.getD i default = if (i : Int) = n then false else g.cards.getD i default := fun i => by
        rw [hCC, cset_get B n false i (by rw [hBB, lB]; exact hc), gB]
        by_cases e : (i : Int) = n
        · rw [if_pos e, if_pos e]
        · rw [if_neg e, if_neg e, if_neg e]
      have wB : B.w = g.w := by rw [hBB]; rfl
      have wC : C.w = g.w := by rw [hCC, hBB]; rfl
      have lB' : B.cards.length = g.cards.length := by rw [hBB]; exact lB
      have lC' : C.cards.length = g.cards.length := by rw [hCC, hBB]; exact lC
      rw [← hBB, ← hCC]
      show ∃ n, _
      refine ⟨0, ALoop.inv (ι := {i : Nat // i ≤ g.cards.length}) (fun i => ⟨[(2, .c (.d (.rp g.enc))), (7, .int n), (9, .c (.d (.rp B.enc))), (11, .c (.d (.rp C.enc))), (13, .int i.1)], [], 64⟩) (fun i => g.cards.length - i.1) ⟨0, Nat.zero_le _⟩ ?_ ?_⟩
      · exact ⟨[], .cons _ _ _ (.c _ _ (.frz _ _ rfl)) (.cons _ _ _ .same (.cons _ _ _ (.c _ _ (.frz _ _ rfl)) (.cons _ _ _ (.c _ _ (.frz _ _ rfl)) (.cons _ _ _ .same .nil)))), .nil, rfl⟩
      · rintro ⟨i, hi⟩
        show ABr (decide ((i : Int) < (g.cards.length : Int))) _ _
        refine ⟨fun h => ?_, fun h => ?_⟩
        · have hlt : i < g.cards.length := by simpa using h
          have wi : IntKind.i64.wrap ((i : Int) + 1) = ((i + 1 : Nat) : Int) := wrapP (i := i) (by unfold maxN; omega)
          have again : ∀ s : AS, ALe s ⟨[(2, .c (.d (.rp g.enc))), (7, .int n), (9, .c (.d (.rp B.enc))), (11, .c (.d (.rp C.enc))), (13, .int ((i + 1 : Nat) : Int))], [], 64⟩ → ARound (ι := {i : Nat // i ≤ g.cards.length}) (fun i => ⟨[(2, .c (.d (.rp g.enc))), (7, .int n), (9, .c (.d (.rp B.enc))), (11, .c (.d (.rp C.enc))), (13, .int i.1)], [], 64⟩) (fun i => g.cards.length - i.1) ⟨i, hi⟩ s := fun s hs => ⟨⟨i + 1, hlt⟩, by show g.cards.length - (i + 1) < g.cards.length - i; omega, hs⟩
          show ABr ((i : Int) != n) _ _
          refine ⟨fun h => ?_, fun h => ?_⟩
          · have hne : ¬ (i : Int) = n := by simpa using h
            show AOb ((0 : Int) ≤ (i : Int) ∧ (i : Int) < (B.cards.length : Int)) _
            refine ⟨by omega, ?_⟩
            show AOb ((0 : Int) ≤ (i : Int) ∧ (i : Int) < (g.cards.length : Int)) _
            refine ⟨by omega, ?_⟩
            show ABr (B.cards.getD i default != g.cards.getD i default) _ _
            rw [gB, if_neg hne]
            show ABr _ _ _
            refine ⟨fun h => absurd h (by simp), fun _ => ?_⟩
            show AOb ((0 : Int) ≤ (i : Int) ∧ (i : Int) < (C.cards.length : Int)) _
            refine ⟨by omega, ?_⟩
            show AOb ((0 : Int) ≤ (i : Int) ∧ (i : Int) < (g.cards.length : Int)) _
            refine ⟨by omega, ?_⟩
            show ABr (C.cards.getD i default != g.cards.getD i default) _ _
            rw [gC, if_neg hne]
            show ABr _ _ _
            refine ⟨fun h => absurd h (by simp), fun _ => ?_⟩
            show ARound _ _ _ _
            exact again _ ⟨[], .cons _ _ _ .same (.cons _ _ _ .same (.cons _ _ _ .same (.cons _ _ _ .same (.cons _ _ _ (.int_eq wi) .nil)))), .nil, rfl⟩
          · show ABr _ _ _
            refine ⟨fun h => absurd h (by decide), fun _ => ?_⟩
            show ARound _ _ _ _
            exact again _ ⟨[], .cons _ _ _ .same (.cons _ _ _ .same (.cons _ _ _ .same (.cons _ _ _ .same (.cons _ _ _ (.int_eq wi) .nil)))), .nil, rfl⟩
        · have hge : i = g.cards.length := by simp at h; omega
          show ACall _ _ _ _ _ _
          refine call_ret (Ints_spec B.w g.w) rfl ?_
          rw [decide_eq_true wB]
          show AIf _ _ _
          refine ⟨fun _ => ?_, fun h => absurd ⟨rfl, trivial⟩ h⟩
          show ACall _ _ _ _ _ _
          refine call_ret (Ints_spec C.w g.w) rfl ?_
          rw [decide_eq_true wC]
          show ARet _ _ _
          exact ret_d rfl ⟨rfl, rfl⟩
end Go.Abs
