/- Walks: are two heaps the same? -/
import Derived.Test.YtpkngagppfoccaaGreatDoorWHead
import Derived.Test.YtpkngagppfoccaaGreatDoorWClass
set_option linter.all false
set_option linter.unusedVariables false
set_option linter.unusedSimpArgs false
namespace Go.Abs
open Go.Proofs Go.Proofs.YtpkngagppfoccaaGreatDoor
set_option maxRecDepth 8000

theorem list_same {α : Type} [Inhabited α] {a b : List α} (hl : a.length = b.length) (h : ∀ j, j < a.length → a.getD j default = b.getD j default) : a = b := by
  apply List.ext_getElem hl
  intro i h1 h2
  have := h i h1
  rw [List.getD_eq_getElem?_getD, List.getD_eq_getElem?_getD, List.getElem?_eq_getElem h1, List.getElem?_eq_getElem h2] at this
  exact this

theorem page_same (p q : Page) : (p.kind == q.kind && (p.arg == q.arg && true)) = decide (p = q) := by
  obtain ⟨a, b⟩ := p
  obtain ⟨c, d⟩ := q
  rw [Bool.eq_iff_iff]
  simp

theorem pSame_spec (a b : List Page) : Spec X 40 [] [.c (.d (.sl .page a)), .c (.d (.sl .page b))] (Ret [] (.bo (decide (a = b)))) := by
  refine spec_go X_ok Tryz.f40 (by kernel_rfl) (by kernel_rfl) (by kernel_rfl) fun hb hH => ⟨rfl, ?_⟩
  have hla : a.length ≤ maxN := (hb (.c (.d (.sl .page a))) (by simp)).1
  unfold maxN at hla
  show ABr ((a.length : Int) != (b.length : Int)) _ _
  refine ⟨fun h => ?_, fun h => ?_⟩
  · show ARet _ _ _
    refine ret_bo (x := false) ?_ ⟨rfl, rfl⟩
    symm
    apply decide_eq_false
    intro e
    subst e
    simp at h
  · have hlen : a.length = b.length := by simp at h; omega
    show ∃ n, _
    refine ⟨0, ALoop.inv (ι := {i : Nat // i ≤ a.length ∧ ∀ j, j < i → a.getD j default = b.getD j default}) (fun i => ⟨[(0, .c (.d (.sl .page a))), (1, .c (.d (.sl .page b))), (5, .int i.1)], [], 32⟩) (fun i => a.length - i.1) ⟨0, Nat.zero_le _, fun j hj => absurd hj (by omega)⟩ ?_ ?_⟩
    · exact ⟨[], .cons _ _ _ .same (.cons _ _ _ .same (.cons _ _ _ .same .nil)), .nil, rfl⟩
    · rintro ⟨i, hi, hn⟩
      show ABr (decide ((i : Int) < (a.length : Int))) _ _
      refine ⟨fun h => ?_, fun h => ?_⟩
      · have hlt : i < a.length := by simpa using h
        show AOb ((0 : Int) ≤ (i : Int) ∧ (i : Int) < (a.length : Int)) _
        refine ⟨by omega, ?_⟩
        show AOb ((0 : Int) ≤ (i : Int) ∧ (i : Int) < (b.length : Int)) _
        refine ⟨by omega, ?_⟩
        show ABr (!((a.getD i default).kind == (b.getD i default).kind && ((a.getD i default).arg == (b.getD i default).arg && true))) _ _
        rw [page_same]
        refine ⟨fun h => ?_, fun h => ?_⟩
        · have hne : a.getD i default ≠ b.getD i default := by simpa using h
          show ARet _ _ _
          refine ret_bo (x := false) ?_ ⟨rfl, rfl⟩
          symm
          apply decide_eq_false
          intro e
          subst e
          exact hne rfl
        · have heq : a.getD i default = b.getD i default := by simpa using h
          show ARound _ _ _ _
          exact ⟨⟨i + 1, hlt, fun j hj => by
            by_cases e : j = i
            · subst e; exact heq
            · exact hn j (by omega)⟩, by show a.length - (i + 1) < a.length - i; omega, [], .cons _ _ _ .same (.cons _ _ _ .same (.cons _ _ _ (.int_eq (wrapP (i := i) (by unfold maxN; omega))) .nil)), .nil, rfl⟩
      · have hge : i = a.length := by simp at h; omega
        show ARet _ _ _
        refine ret_bo (x := true) ?_ ⟨rfl, rfl⟩
        symm
        apply decide_eq_true
        exact list_same hlen (by rw [← hge]; exact hn)

theorem hp_same (a b : Hp) : decide (a = b) = (decide (a.w = b.w) && (decide (a.pages = b.pages) && (decide (a.free = b.free) && decide (a.cards = b.cards)))) := by
  obtain ⟨a1, a2, a3, a4⟩ := a
  obtain ⟨b1, b2, b3, b4⟩ := b
  rw [Bool.eq_iff_iff]
  simp

theorem hSame_spec (a b : Hp) : Spec X 14 [] [a.tv, b.tv] (Ret [] (.bo (decide (a = b)))) := by
  refine spec_go X_ok Tryz.f14 (by kernel_rfl) (by kernel_rfl) (by kernel_rfl) fun hb hH => ⟨rfl, ?_⟩
  have hla : a.cards.length ≤ maxN := ((hb (a.tv) (by simp)) (.d (.sl .bool a.cards)) (by simp [Hp.enc])).1
  unfold maxN at hla
  show ACall _ _ _ _ _ _
  refine call_ret (Ints_spec a.w b.w) rfl ?_
  show ACall _ _ _ _ _ _
  refine call_ret (pSame_spec a.pages b.pages) rfl ?_
  show ACall _ _ _ _ _ _
  refine call_ret (rSame_spec a.free b.free) rfl ?_
  rw [hp_same]
  show ABr (bif (bif (bif !decide (a.w = b.w) then true else !decide (a.pages = b.pages)) then true else !decide (a.free = b.free)) then true else (a.cards.length : Int) != (b.cards.length : Int)) _ _
  generalize decide (a.w = b.w) = b1
  generalize decide (a.pages = b.pages) = b2
  generalize decide (a.free = b.free) = b3
  refine ⟨fun h => ?_, fun h => ?_⟩
  · show ARet _ _ _
    refine ret_bo (x := false) ?_ ⟨rfl, rfl⟩
    cases b1 <;> cases b2 <;> cases b3 <;> try rfl
    symm
    simp only [Bool.true_and]
    apply decide_eq_false
    intro e
    rw [e] at h
    simp at h
  · have hb3 : b1 = true ∧ b2 = true ∧ b3 = true ∧ a.cards.length = b.cards.length := by
      cases b1 <;> cases b2 <;> cases b3 <;> simp at h
      exact ⟨rfl, rfl, rfl, by omega⟩
    obtain ⟨rfl, rfl, rfl, hlen⟩ := hb3
    show ∃ n, _
    refine ⟨0, ALoop.inv (ι := {i : Nat // i ≤ a.cards.length ∧ ∀ j, j < i → a.cards.getD j default = b.cards.getD j default}) (fun i => ⟨[(2, .c (.d (.rp a.enc))), (3, .c (.d (.rp b.enc))), (8, .int i.1)], [], 32⟩) (fun i => a.cards.length - i.1) ⟨0, Nat.zero_le _, fun j hj => absurd hj (by omega)⟩ ?_ ?_⟩
    · exact ⟨[], .cons _ _ _ (.c _ _ (.frz _ _ rfl)) (.cons _ _ _ (.c _ _ (.frz _ _ rfl)) (.cons _ _ _ .same .nil)), .nil, rfl⟩
    · rintro ⟨i, hi, hn⟩
      show ABr (decide ((i : Int) < (a.cards.length : Int))) _ _
      refine ⟨fun h => ?_, fun h => ?_⟩
      · have hlt : i < a.cards.length := by simpa using h
        show AOb ((0 : Int) ≤ (i : Int) ∧ (i : Int) < (a.cards.length : Int)) _
        refine ⟨by omega, ?_⟩
        show AOb ((0 : Int) ≤ (i : Int) ∧ (i : Int) < (b.cards.length : Int)) _
        refine ⟨by omega, ?_⟩
        show ABr (a.cards.getD i default != b.cards.getD i default) _ _
        refine ⟨fun h => ?_, fun h => ?_⟩
        · have hne : a.cards.getD i default ≠ b.cards.getD i default := fun e => by rw [e] at h; simp at h
          show ARet _ _ _
          refine ret_bo (x := false) ?_ ⟨rfl, rfl⟩
          symm
          simp only [Bool.true_and]
          apply decide_eq_false
          intro e
          rw [e] at hne
          exact hne rfl
        · have heq : a.cards.getD i default = b.cards.getD i default := bne_eq_false_iff_eq.1 h
          show ARound _ _ _ _
          exact ⟨⟨i + 1, hlt, fun j hj => by
            by_cases e : j = i
            · subst e; exact heq
            · exact hn j (by omega)⟩, by show a.cards.length - (i + 1) < a.cards.length - i; omega, [], .cons _ _ _ .same (.cons _ _ _ .same (.cons _ _ _ (.int_eq (wrapP (i := i) (by unfold maxN; omega))) .nil)), .nil, rfl⟩
      · have hge : i = a.cards.length := by simp at h; omega
        show ARet _ _ _
        refine ret_bo (x := true) ?_ ⟨rfl, rfl⟩
        symm
        simp only [Bool.true_and]
        apply decide_eq_true
        exact list_same hlen (by rw [← hge]; exact hn)
end Go.Abs
