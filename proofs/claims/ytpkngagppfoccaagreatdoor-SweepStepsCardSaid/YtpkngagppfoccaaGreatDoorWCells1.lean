/- Walks: what pages are; their cells, by iterators; in plain Lean. -/
import Derived.Test.YtpkngagppfoccaaGreatDoorWClass
set_option linter.all false
set_option linter.unusedVariables false
set_option linter.unusedSimpArgs false
namespace Go.Abs
open Go.Proofs Go.Proofs.YtpkngagppfoccaaGreatDoor
set_option maxRecDepth 8000

/-- A page that is none of a large object's rest. -/
def pageFits (p : Page) : Bool := decide ((p.kind = 0 ∧ p.arg = 0) ∨ (p.kind = 1 ∧ 0 ≤ p.arg ∧ p.arg ≤ 2) ∨ (p.kind = 2 ∧ 1 ≤ p.arg ∧ p.arg ≤ 4))

/-- May pages be, of which so many must go on? -/
def pgo : Int → List Page → Bool
  | r, [] => decide (r = 0)
  | r, p :: l => bif decide (p.kind = 3) then !decide (r = 0) && decide (p.arg = 0) && pgo (r - 1) l else pageFits p && !decide (r > 0) && pgo (if p.kind = 2 then p.arg - 1 else r) l

def mayP (l : List Page) : Bool := pgo 0 l && decide (1 ≤ l.length ∧ l.length ≤ 64)

theorem pin_spec (a b c : Int) : Spec X 109 [] [.int a, .int b, .int c] (Ret [] (.bo (decide (b ≤ a ∧ a ≤ c)))) := by
  refine spec_go X_ok Tryz.f109 (by kernel_rfl) (by kernel_rfl) (by kernel_rfl) fun hb hH => ⟨rfl, ?_⟩
  show ARet _ _ _
  refine ret_bo (x := bif decide (a ≥ b) then decide (a ≤ c) else false) ?_ ⟨rfl, rfl⟩
  by_cases h : b ≤ a <;> simp [h]

theorem pgo_at {l : List Page} {i : Nat} {r : Int} (h : i < l.length) : pgo r (l.drop i) = pgo r (l.getD i default :: l.drop (i + 1)) := by
  rw [List.drop_eq_getElem_cons h, List.getD_eq_getElem?_getD, List.getElem?_eq_getElem h]
  rfl

theorem pMay_spec (l : List Page) : Spec X 83 [] [.c (.d (.sl .page l))] (Ret [] (.bo (mayP l))) := by
  refine spec_go X_ok Tryz.f83 (by kernel_rfl) (by kernel_rfl) (by kernel_rfl) fun hb hH => ⟨rfl, ?_⟩
  have hla : l.length ≤ maxN := (hb (.c (.d (.sl .page l))) (by simp)).1
  unfold maxN at hla
  show ∃ n, _
  refine ⟨0, ALoop.inv (ι := {p : Nat × Int // p.1 ≤ l.length ∧ 0 ≤ p.2 ∧ p.2 ≤ 3 ∧ pgo 0 l = pgo p.2 (l.drop p.1)}) (fun p => ⟨[(0, .c (.d (.sl .page l))), (3, .int p.1.2), (6, .c (.d (.sl .page l))), (7, .int l.length), (8, .int p.1.1)], [], 32⟩) (fun p => l.length - p.1.1) ⟨(0, 0), Nat.zero_le _, Int.le_refl _, by show (0 : Int) ≤ 3; omega, rfl⟩ ?_ ?_⟩
  · exact ⟨[], .cons _ _ _ .same (.cons _ _ _ .same (.cons _ _ _ .same (.cons _ _ _ .same (.cons _ _ _ .same .nil)))), .nil, rfl⟩
  · rintro ⟨⟨i, r⟩, hi, hr0, hr3, he⟩
    have hi : i ≤ l.length := hi
    have hr0 : 0 ≤ r := hr0
    have hr3 : r ≤ 3 := hr3
    have he : pgo 0 l = pgo r (l.drop i) := he
    show ABr (decide ((i : Int) < (l.length : Int))) _ _
    refine ⟨fun h => ?_, fun h => ?_⟩
    · have hlt : i < l.length := by simpa using h
      rw [pgo_at hlt] at he
      generalize hp : l.getD i default = p at he
      have bad : pgo 0 l = false → mayP l = false := fun h => by unfold mayP; rw [h]; rfl
      show AOb ((0 : Int) ≤ (i : Int) ∧ (i : Int) < (l.length : Int)) _
      refine ⟨by omega, ?_⟩
      show ABr (decide ((l.getD i default).kind = 3)) _ _
      rw [hp]
      refine ⟨fun h => ?_, fun h => ?_⟩
      · have hk : p.kind = 3 := of_decide_eq_true h
        have he : pgo 0 l = (!decide (r = 0) && decide (p.arg = 0) && pgo (r - 1) (l.drop (i + 1))) := by rw [he]; simp only [pgo, hk, decide_true, cond_true]
        show ABr (bif decide (r = 0) then true else (l.getD i default).arg != 0) _ _
        rw [hp]
        refine ⟨fun h => ?_, fun h => ?_⟩
        · show ARet _ _ _
          refine ret_bo (x := false) ?_ ⟨rfl, rfl⟩
          refine (bad ?_).symm
          rw [he]
          by_cases h1 : r = 0
          · simp [h1]
          · simp [h1] at h
            simp [h]
        · have h1 : r ≠ 0 ∧ p.arg = 0 := by
            by_cases h1 : r = 0
            · simp [h1] at h
            · simp [h1] at h; exact ⟨h1, h⟩
          show ARound _ _ _ _
          exact ⟨⟨(i + 1, r - 1), hlt, by show 0 ≤ r - 1; omega, by show r - 1 ≤ 3; omega, by show pgo 0 l = pgo (r - 1) (l.drop (i + 1)); rw [he]; simp [h1]⟩, by show l.length - (i + 1) < l.length - i; omega, [], .cons _ _ _ .same (.cons _ _ _ (.int_eq (wrap64 (n := r - 1) (by omega) (by omega))) (.cons _ _ _ .same (.cons _ _ _ .same (.cons _ _ _ (.int_eq (wrapP (i := i) (by unfold maxN; omega))) .nil)))), .nil, rfl⟩
      · have hk : p.kind ≠ 3 := of_decide_eq_false h
        have he : pgo 0 l = (pageFits p && !decide (r > 0) && pgo (if p.kind = 2 then p.arg - 1 else r) (l.drop (i + 1))) := by rw [he]; simp only [pgo, hk, decide_false, cond_false]
        have nofit : pageFits p = false → mayP l = false := fun h => bad (by rw [he, h]; rfl)
        -- what comes behind the kind
        have rest : ∀ (r2 : Int), True := fun _ => trivial
        show ABr (decide ((l.getD i default).kind = 0)) _ _
        rw [hp]
        refine ⟨fun h => ?_, fun h => ?_⟩
        · have hk0 : p.kind = 0 := of_decide_eq_true h
          show ABr ((l.getD i default).arg != 0) _ _
          rw [hp]
          refine ⟨fun h => ?_, fun h => ?_⟩
          · show ARet _ _ _
            refine ret_bo (x := false) (nofit ?_).symm ⟨rfl, rfl⟩
            simp at h
            simp [pageFits, hk0, h]
          · have ha : p.arg = 0 := by simpa using h
            have hf : pageFits p = true := by simp [pageFits, hk0, ha]
            show ABr (decide (r > 0)) _ _
            refine ⟨fun h => ?_, fun h => ?_⟩
            · show ARet _ _ _
              refine ret_bo (x := false) (bad ?_).symm ⟨rfl, rfl⟩
              rw [he, h]; simp
            · show ABr (decide ((l.getD i default).kind = 2)) _ _
              rw [hp]
              refine ⟨fun h => absurd (of_decide_eq_true h) (by omega), fun _ => ?_⟩
              show ARound _ _ _ _
              exact ⟨⟨(i + 1, r), hlt, hr0, hr3, by show pgo 0 l = pgo r (l.drop (i + 1)); rw [he, hf, h, if_neg (by omega)]; simp⟩, by show l.length - (i + 1) < l.length - i; omega, [], .cons _ _ _ .same (.cons _ _ _ .same (.cons _ _ _ .same (.cons _ _ _ .same (.cons _ _ _ (.int_eq (wrapP (i := i) (by unfold maxN; omega))) .nil)))), .nil, rfl⟩
        · have hk0 : p.kind ≠ 0 := of_decide_eq_false h
          show ABr (decide ((l.getD i default).kind = 1)) _ _
          rw [hp]
          refine ⟨fun h => ?_, fun h => ?_⟩
          · have hk1 : p.kind = 1 := of_decide_eq_true h
            show ACall _ _ _ _ _ _
            refine call_ret (pin_spec (l.getD i default).arg 0 2) rfl ?_
            rw [hp]
            show ABr (!decide (0 ≤ p.arg ∧ p.arg ≤ 2)) _ _
            refine ⟨fun h => ?_, fun h => ?_⟩
            · show ARet _ _ _
              refine ret_bo (x := false) (nofit ?_).symm ⟨rfl, rfl⟩
              simp at h
              simp [pageFits, hk1]
              omega
            · have ha : 0 ≤ p.arg ∧ p.arg ≤ 2 := by simpa using h
              have hf : pageFits p = true := by simp [pageFits, hk1, ha]
              show ABr (decide (r > 0)) _ _
              refine ⟨fun h => ?_, fun h => ?_⟩
              · show ARet _ _ _
                refine ret_bo (x := false) (bad ?_).symm ⟨rfl, rfl⟩
                rw [he, h]; simp
              · show ABr (decide ((l.getD i default).kind = 2)) _ _
                rw [hp]
                refine ⟨fun h => absurd (of_decide_eq_true h) (by omega), fun _ => ?_⟩
                show ARound _ _ _ _
                exact ⟨⟨(i + 1, r), hlt, hr0, hr3, by show pgo 0 l = pgo r (l.drop (i + 1)); rw [he, hf, h, if_neg (by omega)]; simp⟩, by show l.length - (i + 1) < l.length - i; omega, [], .cons _ _ _ .same (.cons _ _ _ .same (.cons _ _ _ .same (.cons _ _ _ .same (.cons _ _ _ (.int_eq (wrapP (i := i) (by unfold maxN; omega))) .nil)))), .nil, rfl⟩
          · have hk1 : p.kind ≠ 1 := of_decide_eq_false h
            show ABr (decide ((l.getD i default).kind = 2)) _ _
            rw [hp]
            refine ⟨fun h => ?_, fun h => ?_⟩
            · have hk2 : p.kind = 2 := of_decide_eq_true h
              show ACall _ _ _ _ _ _
              refine call_ret (pin_spec (l.getD i default).arg 1 4) rfl ?_
              rw [hp]
              show ABr (!decide (1 ≤ p.arg ∧ p.arg ≤ 4)) _ _
              refine ⟨fun h => ?_, fun h => ?_⟩
              · show ARet _ _ _
                refine ret_bo (x := false) (nofit ?_).symm ⟨rfl, rfl⟩
                simp at h
                simp [pageFits, hk2]
                omega
              · have ha : 1 ≤ p.arg ∧ p.arg ≤ 4 := by simpa using h
                have hf : pageFits p = true := by simp [pageFits, hk2, ha]
                show ABr (decide (r > 0)) _ _
                refine ⟨fun h => ?_, fun h => ?_⟩
                · show ARet _ _ _
                  refine ret_bo (x := false) (bad ?_).symm ⟨rfl, rfl⟩
                  rw [he, h]; simp
                · show ABr (decide ((l.getD i default).kind = 2)) _ _
                  rw [hp]
                  refine ⟨fun _ => ?_, fun h => absurd hk2 (of_decide_eq_false h)⟩
                  show ARound _ _ _ _
                  exact ⟨⟨(i + 1, p.arg - 1), hlt, by show 0 ≤ p.arg - 1; omega, by show p.arg - 1 ≤ 3; omega, by show pgo 0 l = pgo (p.arg - 1) (l.drop (i + 1)); rw [he, hf, h, if_pos hk2]; simp⟩, by show l.length - (i + 1) < l.length - i; omega, [], .cons _ _ _ .same (.cons _ _ _ (.int_eq (by show IntKind.i64.wrap ((l.getD i default).arg - 1) = p.arg - 1; rw [hp]; exact wrap64 (by omega) (by omega))) (.cons _ _ _ .same (.cons _ _ _ .same (.cons _ _ _ (.int_eq (wrapP (i := i) (by unfold maxN; omega))) .nil)))), .nil, rfl⟩
            · have hk2 : p.kind ≠ 2 := of_decide_eq_false h
              show ARet _ _ _
              refine ret_bo (x := false) (nofit ?_).symm ⟨rfl, rfl⟩
              simp [pageFits, hk0, hk1, hk2]
    · have hge : i = l.length := by simp at h; omega
      subst hge
      rw [List.drop_length] at he
      have he : pgo 0 l = decide (r = 0) := he
      show AIf (decide (r = 0) = true ∧ True) _ _
      refine ⟨fun h => ?_, fun h => ?_⟩
      · show ACall _ _ _ _ _ _
        refine call_ret (pin_spec (l.length : Int) 1 64) rfl ?_
        show ARet _ _ _
        refine ret_bo (y := mayP l) (x := decide ((1 : Int) ≤ l.length ∧ (l.length : Int) ≤ 64)) ?_ ⟨rfl, rfl⟩
        unfold mayP
        rw [he, h.1]
        simp only [Bool.true_and, decide_eq_decide]
        omega
      · have h1 : decide (r = 0) = false := by
          by_cases h0 : r = 0
          · exact absurd (And.intro (decide_eq_true h0) trivial) h
          · exact decide_eq_false h0
        show AOb (decide (r = 0) = false) _
        refine ⟨h1, ?_⟩
        show ARet _ _ _
        refine ret_bo (x := false) ?_ ⟨rfl, rfl⟩
        unfold mayP
        rw [he, h1]
        rfl

/-! The document's. -/
theorem pgo_nil {r : Int} (h : 0 < r) : pgo r [] = false := by simp [pgo]; omega
theorem pgo_rest {r : Int} (h : 0 < r) (q : Page) (l : List Page) : pgo r (q :: l) = (decide (q = ⟨3, 0⟩) && pgo (r - 1) l) := by
  obtain ⟨k, a⟩ := q
  simp only [pgo]
  by_cases hk : k = 3
  · subst hk
    have h0 : r ≠ 0 := by omega
    simp [h0]
  · have : ¬ (⟨k, a⟩ : Page) = ⟨3, 0⟩ := fun e => hk (by injection e)
    simp [hk, this, h]

theorem rpMay_spec (l : List Page) : Spec X 67 [] [.c (.d (.sl .page l))] (Ret [] (.bo (mayP l))) := by
  refine spec_go X_ok Tryz.f67 (by kernel_rfl) (by kernel_rfl) (by kernel_rfl) fun hb hH => ⟨rfl, ?_⟩
  have hla : l.length ≤ maxN := (hb (.c (.d (.sl .page l))) (by simp)).1
  unfold maxN at hla
  show ABr (bif decide ((l.length : Int) < 1) then true else decide ((l.length : Int) > 64)) _ _
  refine ⟨fun h => ?_, fun h => ?_⟩
  · show ARet _ _ _
    refine ret_bo (x := false) ?_ ⟨rfl, rfl⟩
    unfold mayP
    have : ¬ (1 ≤ l.length ∧ l.length ≤ 64) := by
      by_cases h1 : (l.length : Int) < 1
      · omega
      · simp [h1] at h; omega
    simp [this]
  · have hlen : 1 ≤ l.length ∧ l.length ≤ 64 := by
      by_cases h1 : (l.length : Int) < 1
      · simp [h1] at h
      · simp [h1] at h; omega
    have hmay : mayP l = pgo 0 l := by unfold mayP; simp [hlen]
    rw [hmay]
    show ∃ n, _
    refine ⟨0, ALoop.inv (ι := {i : Nat // i ≤ l.length ∧ pgo 0 l = pgo 0 (l.drop i)}) (fun i => ⟨[(0, .c (.d (.sl .page l))), (3, .int i.1)], [], 32⟩) (fun i => l.length - i.1) ⟨0, Nat.zero_le _, rfl⟩ ?_ ?_⟩
    · exact ⟨[], .cons _ _ _ .same (.cons _ _ _ .same .nil), .nil, rfl⟩
    · rintro ⟨i, hi, he⟩
      show ABr (decide ((i : Int) < (l.length : Int))) _ _
      refine ⟨fun h => ?_, fun h => ?_⟩
      · have hlt : i < l.length := by simpa using h
        rw [pgo_at hlt] at he
        generalize hp : l.getD i default = p at he
        have wi : IntKind.i64.wrap ((i : Int) + 1) = ((i + 1 : Nat) : Int) := wrapP (i := i) (by unfold maxN; omega)
        have again : pgo 0 l = pgo 0 (l.drop (i + 1)) → ∀ s : AS, ALe s ⟨[(0, .c (.d (.sl .page l))), (3, .int ((i + 1 : Nat) : Int))], [], 32⟩ → ARound (ι := {i : Nat // i ≤ l.length ∧ pgo 0 l = pgo 0 (l.drop i)}) (fun i => ⟨[(0, .c (.d (.sl .page l))), (3, .int i.1)], [], 32⟩) (fun i => l.length - i.1) ⟨i, hi, by rw [pgo_at hlt, hp]; exact he⟩ s := fun h s hs => ⟨⟨i + 1, hlt, h⟩, by show l.length - (i + 1) < l.length - i; omega, hs⟩
        show AOb ((0 : Int) ≤ (i : Int) ∧ (i : Int) < (l.length : Int)) _
        refine ⟨by omega, ?_⟩
        show ABr (bif decide ((l.getD i default).kind = 0) then decide ((l.getD i default).arg = 0) else false) _ _
        rw [hp]
        refine ⟨fun h => ?_, fun h => ?_⟩
        · have hk : p.kind = 0 ∧ p.arg = 0 := by
            by_cases h1 : p.kind = 0
            · simp [h1] at h; exact ⟨h1, h⟩
            · simp [h1] at h
          show ARound _ _ _ _
          refine again ?_ _ ⟨[], .cons _ _ _ .same (.cons _ _ _ (.int_eq wi) .nil), .nil, rfl⟩
          rw [he]
          simp [pgo, pageFits, hk]
        · have h0 : ¬ (p.kind = 0 ∧ p.arg = 0) := fun h1 => by simp [h1] at h
          show ABr (bif (bif decide ((l.getD i default).kind = 1) then decide ((l.getD i default).arg ≥ 0) else false) then decide ((l.getD i default).arg ≤ 2) else false) _ _
          rw [hp]
          refine ⟨fun h => ?_, fun h => ?_⟩
          · have hk : p.kind = 1 ∧ 0 ≤ p.arg ∧ p.arg ≤ 2 := by
              by_cases h1 : p.kind = 1
              · by_cases h2 : 0 ≤ p.arg
                · simp [h1, h2] at h; exact ⟨h1, h2, h⟩
                · simp [h1, h2] at h
              · simp [h1] at h
            show ARound _ _ _ _
            refine again ?_ _ ⟨[], .cons _ _ _ .same (.cons _ _ _ (.int_eq wi) .nil), .nil, rfl⟩
            rw [he]
            simp [pgo, pageFits, hk]
          · have h1 : ¬ (p.kind = 1 ∧ 0 ≤ p.arg ∧ p.arg ≤ 2) := fun h1 => by simp [h1] at h
            show ABr (bif (bif ((l.getD i default).kind != 2) then true else decide ((l.getD i default).arg < 1)) then true else decide ((l.getD i default).arg > 4)) _ _
            rw [hp]
            refine ⟨fun h => ?_, fun h => ?_⟩
            · have h2 : ¬ (p.kind = 2 ∧ 1 ≤ p.arg ∧ p.arg ≤ 4) := fun h2 => by
                have e1 : ¬ p.arg < 1 := by omega
                have e2 : ¬ p.arg > 4 := by omega
                simp [h2, e1] at h
                omega
              show ARet _ _ _
              refine ret_bo (x := false) ?_ ⟨rfl, rfl⟩
              rw [he]
              have hf : pageFits p = false := by
                unfold pageFits
                exact decide_eq_false fun h3 => h3.elim h0 fun h3 => h3.elim h1 h2
              simp [pgo, hf]
            · have h2 : p.kind = 2 ∧ 1 ≤ p.arg ∧ p.arg ≤ 4 := by
                by_cases e1 : p.kind = 2
                · by_cases e2 : p.arg < 1
                  · simp [e1, e2] at h
                  · simp [e1, e2] at h; omega
                · simp [e1] at h
              have he : pgo 0 l = pgo (p.arg - 1) (l.drop (i + 1)) := by rw [he]; simp [pgo, pageFits, h2]
              show ∃ n, _
              refine ⟨0, ALoop.inv (ι := {q : Nat × Nat // i + 1 ≤ q.1 ∧ q.1 ≤ l.length ∧ 1 ≤ q.2 ∧ (q.2 : Int) ≤ p.arg ∧ pgo 0 l = pgo (p.arg - q.2) (l.drop q.1)}) (fun q => ⟨[(0, .c (.d (.sl .page l))), (3, .int q.1.1), (4, .c (.ptr 1 0 0)), (5, .int q.1.2)], [(1, .vars [.d (DV.int p.kind), .d (DV.int p.arg)])], 64⟩) (fun q => 5 - q.1.2) ⟨(i + 1, 1), Nat.le_refl _, hlt, Nat.le_refl _, h2.2.1, he⟩ ?_ ?_⟩
              · exact ⟨[(_, 1)], .cons _ _ _ .same (.cons _ _ _ (.int_eq wi) (.cons _ _ _ (.c _ _ (.ptr1 _ _ _ _)) (.cons _ _ _ .same .nil))), .old 1 _ _ _ _ rfl rfl (.vars _ _ (.cons _ _ _ _ (.int_eq (by rw [← hp]; rfl)) (.cons _ _ _ _ (.int_eq (by rw [← hp]; rfl)) .nil))) .nil, rfl⟩
              · rintro ⟨⟨j, k⟩, hij, hj, hk1, hka, hej⟩
                have hij : i + 1 ≤ j := hij
                have hj : j ≤ l.length := hj
                have hk1 : 1 ≤ k := hk1
                have hka : (k : Int) ≤ p.arg := hka
                have hej : pgo 0 l = pgo (p.arg - k) (l.drop j) := hej
                show ABr (decide ((k : Int) < p.arg)) _ _
                refine ⟨fun h => ?_, fun h => ?_⟩
                · have hkl : (k : Int) < p.arg := of_decide_eq_true h
                  show ABr (decide ((j : Int) ≥ (l.length : Int))) _ _
                  refine ⟨fun h => ?_, fun h => ?_⟩
                  · have hge : j = l.length := by simp at h; omega
                    subst hge
                    rw [List.drop_length, pgo_nil (by omega)] at hej
                    show ABr _ _ _
                    refine ⟨fun _ => ?_, fun h => absurd h (by decide)⟩
                    show ARet _ _ _
                    refine ret_bo (x := false) hej.symm ⟨rfl, rfl⟩
                  · have hjl : j < l.length := by simp at h; omega
                    rw [pgo_at hjl, pgo_rest (by omega)] at hej
                    show AOb ((0 : Int) ≤ (j : Int) ∧ (j : Int) < (l.length : Int)) _
                    refine ⟨by omega, ?_⟩
                    generalize hq : l.getD j default = q at hej
                    show ABr (!((l.getD j default).kind == 3 && ((l.getD j default).arg == 0 && true))) _ _
                    rw [hq]
                    have hqe : (q.kind == 3 && (q.arg == 0 && true)) = decide (q = ⟨3, 0⟩) := by
                      obtain ⟨k, a⟩ := q
                      by_cases e1 : k = 3 <;> by_cases e2 : a = 0 <;> simp [e1, e2]
                    rw [hqe]
                    refine ⟨fun h => ?_, fun h => ?_⟩
                    · have h : decide (q = ⟨3, 0⟩) = false := by simpa using h
                      show ARet _ _ _
                      refine ret_bo (x := false) ?_ ⟨rfl, rfl⟩
                      rw [hej, h]
                      rfl
                    · have h : decide (q = ⟨3, 0⟩) = true := by simpa using h
                      show ARound _ _ _ _
                      refine ⟨⟨(j + 1, k + 1), by show i + 1 ≤ j + 1; omega, hjl, by show 1 ≤ k + 1; omega, by show ((k + 1 : Nat) : Int) ≤ p.arg; omega, ?_⟩, by show 5 - (k + 1) < 5 - k; omega, [(1, 1)], .cons _ _ _ .same (.cons _ _ _ (.int_eq (wrapP (i := j) (by unfold maxN; omega))) (.cons _ _ _ (.c _ _ (.ptr1 _ _ _ _)) (.cons _ _ _ (.int_eq (wrapP (i := k) (by unfold maxN; omega))) .nil))), .old 1 1 _ _ _ rfl rfl (.vars _ _ (.cons _ _ _ _ (.d _) (.cons _ _ _ _ (.d _) .nil))) .nil, rfl⟩
                      show pgo 0 l = pgo (p.arg - ((k + 1 : Nat) : Int)) (l.drop (j + 1))
                      rw [hej, h, show p.arg - ((k + 1 : Nat) : Int) = p.arg - k - 1 from by omega]
                      rfl
                · have hke : (k : Int) = p.arg := by have := of_decide_eq_false h; omega
                  show ARound _ _ _ _
                  exact ⟨⟨j, hj, by show pgo 0 l = pgo 0 (l.drop j); rw [hej, hke, Int.sub_self]⟩, by show l.length - j < l.length - i; omega, [], .cons _ _ _ .same (.cons _ _ _ .same .nil), .nil, rfl⟩
      · have hge : i = l.length := by simp at h; omega
        show ARet _ _ _
        refine ret_bo (x := true) ?_ ⟨rfl, rfl⟩
        rw [he, hge, List.drop_length]
        rfl
end Go.Abs

namespace Go.Abs
open Go.Proofs Go.Proofs.YtpkngagppfoccaaGreatDoor
set_option maxRecDepth 8000

theorem address_spec (i : Int) (h : 0 ≤ i ∧ i ≤ 4611686018427387) : Spec X 127 [] [.int i] (Ret [] (.int (16 * (i + 1)))) := by
  refine spec_go X_ok Tryz.f127 (by kernel_rfl) (by kernel_rfl) (by kernel_rfl) fun hb hH => ⟨rfl, ?_⟩
  show ARet _ _ [.int (IntKind.i64.wrap (IntKind.i64.wrap (i + 1) * 16))]
  rw [wrap64 (n := i + 1) (by omega) (by omega), wrap64 (by omega) (by omega), Int.mul_comm]
  exact ret_d rfl ⟨rfl, rfl⟩

/-- A loop's rounds: all have been, or one has left the loop. -/
def IterQ (L : Nat) : Heap → TV → Prop := fun H _ => H = [(16, .ghost X.P L (some []))] ∨ H = [(16, .ghost X.P L none)]

abbrev yldT (L : Nat) : TV := .lit (.func (.yield L) #[] #[])

/-- The cells of a page: where each begins, and how many words it has. -/
def cellsOn (p : Page) (a : Int) : List (Int × Int) :=
  if p.kind = 2 then [(a, p.arg * 16)] else if p.kind = 1 then (List.range (clsN p.arg).toNat).map (fun i : Nat => (a + (i : Int) * clsW p.arg, clsW p.arg)) else []

def pageOk (p : Page) : Prop := (p.kind = 1 → 0 ≤ p.arg ∧ p.arg ≤ 2) ∧ (p.kind = 2 → 1 ≤ p.arg ∧ p.arg ≤ 4)

theorem iter_ret {L : Nat} {s : AS} {o : Option (List (Int × Int))} (h : hlook s.h 16 = some (.ghost X.P L o)) (ho : o = some [] ∨ o = none) : ARet (IterQ L) s [] := by
  refine ⟨[(16, 16)], [(16, .ghost X.P L o)], [], .nil, .old 16 16 _ _ _ rfl h (.ghost _ _ _) .nil, rfl, ?_⟩
  rcases ho with rfl | rfl
  · exact .inl rfl
  · exact .inr rfl

theorem on1_spec (L : Nat) (l : List Page) (i : Nat) (hi : i < l.length) (hsz : l.length ≤ 64) (hp : pageOk (l.getD i default)) :
    Spec X 126 [(16, .ghost X.P L (some (cellsOn (l.getD i default) (16 * ((i : Int) + 1)))))] [yldT L, .c (.d (.rp [.sl .page l])), .c (.d (.rp [DV.int i]))] (IterQ L) := by
  generalize hpe : l.getD i default = p at hp
  have hget : l.getD i default = p := hpe
  refine spec_go X_ok Tryz.f126 (by kernel_rfl) (by kernel_rfl) (by kernel_rfl) fun hb hH => ⟨rfl, ?_⟩
  show AOb ((0 : Int) ≤ (i : Int) ∧ (i : Int) < (l.length : Int)) _
  refine ⟨by omega, ?_⟩
  show ADCall _ _ _ _ _ _
  refine .mk _ _ (address_spec (i : Int) (by omega)) rfl ?_
  show ABr (decide ((l.getD i default).kind = 2)) _ _
  rw [hget]
  refine ⟨fun h => ?_, fun h => ?_⟩
  · have hk : p.kind = 2 := of_decide_eq_true h
    have ha := hp.2 hk
    have hw : IntKind.i64.wrap ((l.getD i default).arg * 16) = p.arg * 16 := by rw [hget]; exact wrap64 (by omega) (by omega)
    have e : cellsOn p (16 * ((i : Int) + 1)) = [(16 * ((i : Int) + 1), p.arg * 16)] := by unfold cellsOn; rw [if_pos hk]
    show AYield _ _ [.agg [.d (DV.int (16 * ((i : Int) + 1))), .d (DV.int (IntKind.i64.wrap ((l.getD i default).arg * 16)))]] _ _
    rw [hw, e]
    refine .mk 16 (16 * ((i : Int) + 1), p.arg * 16) [] rfl rfl ?_ ?_
    · show ARet _ _ _
      exact iter_ret rfl (.inl rfl)
    · show ARet _ _ _
      exact iter_ret rfl (.inr rfl)
  · have hk : p.kind ≠ 2 := of_decide_eq_false h
    show ABr (decide ((l.getD i default).kind = 1)) _ _
    rw [hget]
    refine ⟨fun h => ?_, fun h => ?_⟩
    · have hk1 : p.kind = 1 := of_decide_eq_true h
      have ha := hp.1 hk1
      obtain ⟨n, hn, hn8⟩ : ∃ n : Nat, clsN p.arg = (n : Int) ∧ n ≤ 8 := by
        have : p.arg = 0 ∨ p.arg = 1 ∨ p.arg = 2 := by omega
        rcases this with e | e | e <;> rw [e]
        · exact ⟨8, rfl, by omega⟩
        · exact ⟨4, rfl, by omega⟩
        · exact ⟨2, rfl, by omega⟩
      have hw8 : 0 ≤ clsW p.arg ∧ clsW p.arg ≤ 8 := by unfold clsW; repeat (split; omega); omega
      have e : cellsOn p (16 * ((i : Int) + 1)) = (List.range n).map (fun j : Nat => (16 * ((i : Int) + 1) + (j : Int) * clsW p.arg, clsW p.arg)) := by
        unfold cellsOn
        rw [if_neg hk, if_pos hk1, hn]
        rfl
      rw [e]
      show ACall _ _ _ _ _ _
      refine call_ret (cWords_spec (l.getD i default).arg) rfl ?_
      show ACall _ _ _ _ _ _
      refine call_ret (cCells_spec (l.getD i default).arg) rfl ?_
      rw [hget, hn]
      show ∃ n, _
      refine ⟨0, ALoop.inv (ι := {j : Nat // j ≤ n}) (fun j => ⟨[(0, yldT L), (5, .int (16 * ((i : Int) + 1))), (6, .int (clsW p.arg)), (32, .int (n : Int)), (33, .int j.1)], [(16, .ghost X.P L (some (((List.range n).map (fun j : Nat => (16 * ((i : Int) + 1) + (j : Int) * clsW p.arg, clsW p.arg))).drop j.1)))], 32⟩) (fun j => n - j.1) ⟨0, Nat.zero_le _⟩ ?_ ?_⟩
      · exact ⟨[(16, 16)], .cons _ _ _ .same (.cons _ _ _ .same (.cons _ _ _ .same (.cons _ _ _ .same (.cons _ _ _ .same .nil)))), .old 16 16 _ _ _ rfl rfl (.ghost _ _ _) .nil, rfl⟩
      · rintro ⟨j, hj⟩
        have hj : j ≤ n := hj
        show ABr (decide ((j : Int) < (n : Int))) _ _
        refine ⟨fun h => ?_, fun h => ?_⟩
        · have hlt : j < n := by simpa using h
          have hjw : 0 ≤ (j : Int) * clsW p.arg ∧ (j : Int) * clsW p.arg ≤ 64 := by
            have h1 : (j : Int) * clsW p.arg ≤ 8 * 8 := Int.mul_le_mul (by omega) hw8.2 hw8.1 (by omega)
            exact ⟨Int.mul_nonneg (by omega) hw8.1, by omega⟩
          have hw : IntKind.i64.wrap (16 * ((i : Int) + 1) + IntKind.i64.wrap ((j : Int) * clsW p.arg)) = 16 * ((i : Int) + 1) + (j : Int) * clsW p.arg := by
            rw [wrap64 (n := (j : Int) * clsW p.arg) (by omega) (by omega), wrap64 (by omega) (by omega)]
          have hd : ((List.range n).map (fun j : Nat => (16 * ((i : Int) + 1) + (j : Int) * clsW p.arg, clsW p.arg))).drop j = (16 * ((i : Int) + 1) + (j : Int) * clsW p.arg, clsW p.arg) :: ((List.range n).map (fun j : Nat => (16 * ((i : Int) + 1) + (j : Int) * clsW p.arg, clsW p.arg))).drop (j + 1) := by
            rw [List.drop_eq_getElem_cons (by simpa using hlt)]
            simp
          show AYield _ _ [.agg [.d (DV.int (IntKind.i64.wrap (16 * ((i : Int) + 1) + IntKind.i64.wrap ((j : Int) * clsW p.arg)))), .d (DV.int (clsW p.arg))]] _ _
          rw [hw]
          refine .mk 16 (16 * ((i : Int) + 1) + (j : Int) * clsW p.arg, clsW p.arg) _ (congrArg (fun r => some (AB.ghost X.P L (some r))) hd) rfl ?_ ?_
          · show ABr _ _ _
            refine ⟨fun h => absurd h (by decide), fun _ => ?_⟩
            show ARound _ _ _ _
            exact ⟨⟨j + 1, hlt⟩, by show n - (j + 1) < n - j; omega, [(16, 16)], .cons _ _ _ .same (.cons _ _ _ .same (.cons _ _ _ .same (.cons _ _ _ .same (.cons _ _ _ (.int_eq (wrapP (i := j) (by unfold maxN; omega))) .nil)))), .old 16 16 _ _ _ rfl rfl (.ghost _ _ _) .nil, rfl⟩
          · show ABr _ _ _
            refine ⟨fun _ => ?_, fun h => absurd h (by decide)⟩
            show ARet _ _ _
            exact iter_ret rfl (.inr rfl)
        · have hge : j = n := by simp at h; omega
          show ARet _ _ _
          refine iter_ret (o := some (((List.range n).map (fun j : Nat => (16 * ((i : Int) + 1) + (j : Int) * clsW p.arg, clsW p.arg))).drop j)) rfl (.inl ?_)
          rw [hge, List.drop_eq_nil_of_le (by simp)]
    · have hk1 : p.kind ≠ 1 := of_decide_eq_false h
      have e : cellsOn p (16 * ((i : Int) + 1)) = [] := by unfold cellsOn; rw [if_neg hk, if_neg hk1]
      show ARet _ _ _
      rw [e]
      exact iter_ret rfl (.inl rfl)

theorem on_spec (l : List Page) (i : Int) : Spec X 112 [] [.c (.d (.sl .page l)), .int i] (Ret [] (.c (.d (.fn 126 [] [.rp [.sl .page l], .rp [DV.int i]])))) := by
  refine spec_go X_ok Tryz.f112 (by kernel_rfl) (by kernel_rfl) (by kernel_rfl) fun hb hH => ⟨rfl, ?_⟩
  show ARet _ _ _
  exact ret1 (.c _ _ (.frz _ _ rfl)) ⟨rfl, rfl⟩

theorem all_spec (l : List Page) : Spec X 89 [] [.c (.d (.sl .page l))] (Ret [] (.c (.d (.fn 111 [] [.rp [.sl .page l]])))) := by
  refine spec_go X_ok Tryz.f89 (by kernel_rfl) (by kernel_rfl) (by kernel_rfl) fun hb hH => ⟨rfl, ?_⟩
  show ARet _ _ _
  exact ret1 (.c _ _ (.frz _ _ rfl)) ⟨rfl, rfl⟩

/-- The cells of the pages from one on. -/
def cellsFrom (l : List Page) (i : Nat) : List (Int × Int) := ((List.range l.length).drop i).flatMap fun j => cellsOn (l.getD j default) (16 * ((j : Int) + 1))

theorem cellsFrom_step {l : List Page} {i : Nat} (h : i < l.length) : cellsFrom l i = cellsOn (l.getD i default) (16 * ((i : Int) + 1)) ++ cellsFrom l (i + 1) := by
  unfold cellsFrom
  rw [List.drop_eq_getElem_cons (by simpa using h), List.flatMap_cons]
  simp

theorem cellsFrom_end {l : List Page} {i : Nat} (h : l.length ≤ i) : cellsFrom l i = [] := by
  unfold cellsFrom
  rw [List.drop_eq_nil_of_le (by simpa using h)]
  rfl

/-- All cells, where each begins, and how many words it has. -/
def cellsAll (l : List Page) : List (Int × Int) := if mayP l then cellsFrom l 0 else []

theorem pgo_ok {l : List Page} : ∀ {r : Int}, pgo r l = true → ∀ p ∈ l, pageOk p := by
  induction l with
  | nil => intro r _ p hp; cases hp
  | cons q l ih =>
    intro r h p hp
    simp only [pgo] at h
    by_cases hk : q.kind = 3
    · simp [hk] at h
      rcases List.mem_cons.1 hp with rfl | hp
      · exact ⟨fun e => by omega, fun e => by omega⟩
      · exact ih h.2 p hp
    · simp [hk] at h
      rcases List.mem_cons.1 hp with rfl | hp
      · have := h.1.1
        simp [pageFits] at this
        exact ⟨fun e => by omega, fun e => by omega⟩
      · exact ih h.2 p hp

theorem mayP_ok {l : List Page} (h : mayP l = true) : (∀ i, i < l.length → pageOk (l.getD i default)) ∧ 1 ≤ l.length ∧ l.length ≤ 64 := by
  unfold mayP at h
  rw [Bool.and_eq_true, decide_eq_true_eq] at h
  refine ⟨fun i hi => pgo_ok h.1 _ ?_, h.2⟩
  rw [List.getD_eq_getElem?_getD, List.getElem?_eq_getElem hi]
  exact List.getElem_mem hi

theorem all1_spec (L : Nat) (l : List Page) : Spec X 111 [(16, .ghost X.P L (some (cellsAll l)))] [yldT L, .c (.d (.rp [.sl .page l]))] (IterQ L) := by
  refine spec_go X_ok Tryz.f111 (by kernel_rfl) (by kernel_rfl) (by kernel_rfl) fun hb hH => ⟨rfl, ?_⟩
  show ACall _ _ _ _ _ _
  refine call_ret (pMay_spec l) rfl ?_
  show ABr (!mayP l) _ _
  refine ⟨fun h => ?_, fun h => ?_⟩
  · have hm : mayP l = false := by simpa using h
    show ARet _ _ _
    exact iter_ret (o := some (cellsAll l)) rfl (.inl (by unfold cellsAll; rw [hm]; rfl))
  · have hm : mayP l = true := by simpa using h
    obtain ⟨hpg, hl1, hl64⟩ := mayP_ok hm
    have hca : cellsAll l = cellsFrom l 0 := by unfold cellsAll; rw [hm]; rfl
    rw [hca]
    show ∃ n, _
    refine ⟨0, ALoop.inv (ι := {i : Nat // i ≤ l.length}) (fun i => ⟨[(1, .c (.d (.rp [.sl .page l]))), (2, .c (.ptr 1 0 0)), (9, .int l.length), (10, .int i.1)], [(1, .vars [.d (.lit (.func (.yield L) #[] #[]))]), (16, .ghost X.P L (some (cellsFrom l i.1)))], 64⟩) (fun i => l.length - i.1) ⟨0, Nat.zero_le _⟩ ?_ ?_⟩
    · exact ⟨[(_, 1), (16, 16)], .cons _ _ _ .same (.cons _ _ _ (.c _ _ (.ptr1 _ _ _ _)) (.cons _ _ _ .same (.cons _ _ _ .same .nil))), .old 1 _ _ _ _ rfl rfl (.vars _ _ (.cons _ _ _ _ (.d _) .nil)) (.old 16 16 _ _ _ rfl rfl (.ghost _ _ _) .nil), rfl⟩
    · rintro ⟨i, hi⟩
      have hi : i ≤ l.length := hi
      show ABr (decide ((i : Int) < (l.length : Int))) _ _
      refine ⟨fun h => ?_, fun h => ?_⟩
      · have hlt : i < l.length := by simpa using h
        have hstep := cellsFrom_step hlt
        show ACall _ _ _ _ _ _
        refine call_ret (on_spec l (i : Int)) rfl ?_
        rw [hstep]
        show ARange _ _ _ _ _ _ _ _
        refine .mk ⟨[(1, .c (.d (.rp [.sl .page l]))), (2, .c (.ptr 1 0 0)), (9, .int l.length), (10, .int (i : Int)), (15, .c (.d (.fn 126 [] [.rp [.sl .page l], .rp [DV.int i]])))], [(1, .vars [.d (.lit (.func (.yield L) #[] #[]))]), (16, .ghost X.P L (some (cellsOn (l.getD i default) (16 * ((i : Int) + 1)) ++ cellsFrom l (i + 1))))], 96⟩ ?_
          126 [.rp [.sl .page l], .rp [DV.int i]] rfl (cellsOn (l.getD i default) (16 * ((i : Int) + 1))) 16 rfl [(1, 17), (16, 16)] [(2, .c (.ptr 17 0 0))]
          (fun _ => True) (fun r => [(17, .vars [.d (.lit (.func (.yield L) #[] #[]))]), (16, .ghost X.P L (some (r ++ cellsFrom l (i + 1))))]) (fun e H => e = .ret ∧ H = [(17, .vars [.d (.lit (.func (.yield L) #[] #[]))]), (16, .ghost X.P L none)])
          trivial (.cons _ _ _ (.c _ _ (.ptr _ _ _ _ rfl)) .nil) (.old 17 1 _ _ _ rfl rfl (.vars _ _ (.cons _ _ _ _ (.d _) .nil)) (.old 16 16 _ _ _ rfl rfl (.ghost _ _ _) .nil)) rfl (fun L' => on1_spec L' l i hlt hl64 (hpg i hlt)) ?_ (fun _ => ⟨rfl, ?_⟩) ?_
        · exact ⟨[(1, 1), (16, 16)], .cons _ _ _ .same (.cons _ _ _ (.c _ _ (.ptr1 _ _ _ _)) (.cons _ _ _ .same (.cons _ _ _ .same (.cons _ _ _ .same .nil)))), .old 1 1 _ _ _ rfl rfl (.vars _ _ (.cons _ _ _ _ (.d _) .nil)) (.old 16 16 _ _ _ rfl rfl (.ghost _ _ _) .nil), rfl⟩
        · intro pre x r hxs _
          show AYield _ _ _ _ _
          refine .mk 16 x (r ++ cellsFrom l (i + 1)) rfl rfl ?_ ?_
          · show ABr _ _ _
            refine ⟨fun h => absurd h (by decide), fun _ => ?_⟩
            show AEnd _ _ ∧ True
            exact ⟨⟨[(17, 17), (16, 16)], .old 17 17 _ _ _ rfl rfl (.vars _ _ (.cons _ _ _ _ (.d _) .nil)) (.old 16 16 _ _ _ rfl rfl (.ghost _ _ _) .nil), rfl⟩, trivial⟩
          · show ABr _ _ _
            refine ⟨fun _ => ?_, fun h => absurd h (by decide)⟩
            show ∃ H, _
            exact ⟨_, ⟨[(17, 17), (16, 16)], .old 17 17 _ _ _ rfl rfl (.vars _ _ (.cons _ _ _ _ (.d _) .nil)) (.old 16 16 _ _ _ rfl rfl (.ghost _ _ _) .nil), rfl⟩, rfl, rfl⟩
        · show ARound _ _ _ _
          exact ⟨⟨i + 1, hlt⟩, by show l.length - (i + 1) < l.length - i; omega, [(1, 1), (16, 16)], .cons _ _ _ .same (.cons _ _ _ (.c _ _ (.ptr1 _ _ _ _)) (.cons _ _ _ .same (.cons _ _ _ (.int_eq (wrapP (i := i) (by unfold maxN; omega))) .nil))), .old 1 1 _ _ _ rfl rfl (.vars _ _ (.cons _ _ _ _ (.d _) .nil)) (.old 16 16 _ _ _ rfl rfl (.ghost _ _ _) .nil), rfl⟩
        · rintro e H ⟨rfl, rfl⟩
          refine ⟨rfl, ?_⟩
          show ARet _ _ _
          exact iter_ret rfl (.inr rfl)
      · have hge : i = l.length := by simp at h; omega
        show ARet _ _ _
        exact iter_ret (o := some (cellsFrom l i)) rfl (.inl (by rw [cellsFrom_end (by omega)]))

theorem cellsOn_len (p : Page) (a : Int) : (cellsOn p a).length ≤ 8 := by
  unfold cellsOn
  split
  · simp
  · split
    · simp only [List.length_map, List.length_range]
      unfold clsN
      repeat (split; omega)
      omega
    · simp

theorem cellsFrom_len (l : List Page) : ∀ (k i : Nat), l.length - i = k → (cellsFrom l i).length ≤ 8 * k := by
  intro k
  induction k with
  | zero => intro i hi; rw [cellsFrom_end (by omega)]; simp
  | succ k ih =>
    intro i hi
    rw [cellsFrom_step (by omega), List.length_append]
    have := cellsOn_len (l.getD i default) (16 * ((i : Int) + 1))
    have := ih (i + 1) (by omega)
    omega

theorem cellsAll_len (l : List Page) : (cellsAll l).length ≤ 512 := by
  unfold cellsAll
  by_cases h : mayP l = true
  · rw [if_pos h]
    have := cellsFrom_len l (l.length) 0 (by omega)
    have := (mayP_ok h).2.2
    omega
  · rw [if_neg h]; simp

/-- Where all cells begin. -/
def cellStarts (l : List Page) : List Int := (cellsAll l).map (·.1)

theorem take_sub {α : Type} {xs pre r : List α} (h : xs = pre ++ r) : xs.take (xs.length - r.length) = pre := by subst h; simp

theorem cAll_spec (l : List Page) : Spec X 51 [] [.c (.d (.sl .page l))] (Ret [(0, .data .int (cellStarts l))] (.c (.own 0))) := by
  refine spec_go X_ok Tryz.f51 (by kernel_rfl) (by kernel_rfl) (by kernel_rfl) fun hb hH => ⟨rfl, ?_⟩
  show ACall _ _ _ _ _ _
  refine call_ret (all_spec l) rfl ?_
  have hlen := cellsAll_len l
  obtain ⟨St, hSt⟩ : ∃ St : List (Int × Int) → Heap, St = fun r => [(16, .vars [.own 1]), (1, .data .int (((cellsAll l).take ((cellsAll l).length - r.length)).map (·.1)))] := ⟨_, rfl⟩
  have hS0 : St (cellsAll l) = [(16, .vars [.own 1]), (1, .data .int ([] : List Int))] := by rw [hSt]; simp; rfl
  have hS1 : St [] = [(16, .vars [.own 1]), (1, .data .int (cellStarts l))] := by rw [hSt]; unfold cellStarts; simp; rfl
  show ARange _ _ _ _ _ _ _ _
  refine .mk ⟨[(3, .c (.ptr 1 0 0)), (6, .c (.d (.fn 111 [] [.rp [.sl .page l]])))], [(1, .vars [.d DV.nilsl])], 160⟩ ?_ 111 [.rp [.sl .page l]] rfl (cellsAll l) 7 rfl [(1, 16)] [(3, .c (.ptr 16 0 0))]
    (fun _ => True) St (fun _ _ => False) trivial (.cons _ _ _ (.c _ _ (.ptr _ _ _ _ rfl)) .nil) ?_ ?_ (fun L => all1_spec L l) ?_ (fun _ => ?_) (fun e H h => h.elim)
  · exact ⟨[(_, 1)], .cons _ _ _ (.c _ _ (.ptr1 _ _ _ _)) (.cons _ _ _ .same .nil), .old 1 _ _ _ _ rfl rfl (.vars _ _ (.cons _ _ _ _ (.d _) .nil)) .nil, rfl⟩
  · rw [hS0]
    exact .old 16 1 _ _ _ rfl rfl (.vars _ _ (.cons _ _ _ _ (.nilown 1 .int rfl rfl) .nil)) (.new 1 .int _ rfl .nil)
  · rw [hS0]; rfl
  · intro pre x r hxs _
    have h1 : (cellsAll l).take ((cellsAll l).length - (x :: r).length) = pre := take_sub hxs
    have h2 : (cellsAll l).take ((cellsAll l).length - r.length) = pre ++ [x] := take_sub (by rw [hxs]; simp)
    have hpre : pre.length ≤ 512 := by rw [hxs] at hlen; simp at hlen; omega
    rw [hSt]
    simp only [h1, h2]
    show AOb ((pre.map (·.1)).length + 1 ≤ most) _
    refine ⟨by rw [List.length_map]; unfold most; omega, ?_⟩
    show AEnd _ _ ∧ True
    refine ⟨⟨[(_, 1), (16, 16)], .old 16 16 _ _ _ rfl rfl (.vars _ _ (.cons _ _ _ _ (.own1 _ _) .nil)) (.old 1 _ _ _ _ rfl rfl (.data_eq ?_) .nil), rfl⟩, trivial⟩
    exact (by simp : (pre.map (fun y : Int × Int => y.1) : List Int) ++ [x.1] = (pre ++ [x]).map (fun y => y.1))
  · rw [hS1]
    refine ⟨rfl, ?_⟩
    show ARet _ _ _
    exact ⟨[(_, 0)], [(0, .data .int (cellStarts l))], [.c (.own 0)], .cons _ _ _ _ (.c _ _ (.own1 _ _)) .nil, .old 0 _ _ _ _ rfl rfl (.data_eq rfl) .nil, rfl, rfl, rfl⟩

/-- What the first of the cells of which a function holds is. -/
def firstT (o : Option (Int × Int)) : TV := match o with
  | some x => .tup [.agg [.d (DV.int x.1), .d (DV.int x.2)], .bo true]
  | none => .tup [.agg [.d (DV.int 0), .d (DV.int 0)], .bo false]

theorem firstC_spec (l : List Page) (g : Nat) (a : Int) (P : Int × Int → Bool) (hP : ∀ x : Int × Int, Spec X g [] [.int a, .agg [.d (DV.int x.1), .d (DV.int x.2)]] (Ret [] (.bo (P x)))) :
    Spec X 61 [] [.c (.d (.sl .page l)), .c (.d (.fn g [DV.int a] []))] (Ret [] (firstT ((cellsAll l).find? P))) := by
  refine spec_go X_ok Tryz.f61 (by kernel_rfl) (by kernel_rfl) (by kernel_rfl) fun hb hH => ⟨rfl, ?_⟩
  show ACall _ _ _ _ _ _
  refine call_ret (all_spec l) rfl ?_
  show ARange _ _ _ _ _ _ _ _
  refine .mk ⟨[(3, .c (.ptr 1 0 0)), (4, .c (.ptr 2 0 0)), (5, .c (.ptr 3 0 0)), (8, .c (.d (.fn 111 [] [.rp [.sl .page l]])))], [(1, .vars [.d (.fn g [DV.int a] [])]), (2, .vars [.d (DV.int 0), .d (DV.int 0)]), (3, .vars [.d (DV.bo false)])], 256⟩ ?_ 111 [.rp [.sl .page l]] rfl (cellsAll l) 9 rfl
    [(1, 16), (2, 17), (3, 18)] [(3, .c (.ptr 16 0 0)), (4, .c (.ptr 17 0 0)), (5, .c (.ptr 18 0 0))]
    (fun r => ∃ pre, cellsAll l = pre ++ r ∧ ∀ y ∈ pre, P y = false) (fun _ => [(16, .vars [.d (.fn g [DV.int a] [])]), (17, .vars [.d (DV.int 0), .d (DV.int 0)]), (18, .vars [.d (DV.bo false)])])
    (fun e H => e = .ret ∧ ∃ x, (cellsAll l).find? P = some x ∧ H = [(16, .vars [.d (.fn g [DV.int a] [])]), (17, .vars [.d (DV.int x.1), .d (DV.int x.2)]), (18, .vars [.d (DV.bo true)])])
    ⟨[], rfl, fun y hy => by cases hy⟩ (.cons _ _ _ (.c _ _ (.ptr _ _ _ _ rfl)) (.cons _ _ _ (.c _ _ (.ptr _ _ _ _ rfl)) (.cons _ _ _ (.c _ _ (.ptr _ _ _ _ rfl)) .nil)))
    (.old 16 1 _ _ _ rfl rfl (.vars _ _ (.cons _ _ _ _ (.d _) .nil)) (.old 17 2 _ _ _ rfl rfl (.vars _ _ (.cons _ _ _ _ (.d _) (.cons _ _ _ _ (.d _) .nil))) (.old 18 3 _ _ _ rfl rfl (.vars _ _ (.cons _ _ _ _ (.d _) .nil)) .nil))) rfl (fun L => all1_spec L l) ?_ (fun hI => ⟨rfl, ?_⟩) ?_
  · exact ⟨[(32, 1), (64, 2), (96, 3)], .cons _ _ _ (.c _ _ (.ptr1 _ _ _ _)) (.cons _ _ _ (.c _ _ (.ptr _ _ _ _ rfl)) (.cons _ _ _ (.c _ _ (.ptr _ _ _ _ rfl)) (.cons _ _ _ .same .nil))), .old 1 _ _ _ _ rfl rfl (.vars _ _ (.cons _ _ _ _ (.d _) .nil)) (.old 2 _ _ _ _ rfl rfl (.vars _ _ (.cons _ _ _ _ (.d _) (.cons _ _ _ _ (.d _) .nil))) (.old 3 _ _ _ _ rfl rfl (.vars _ _ (.cons _ _ _ _ (.d _) .nil)) .nil)), rfl⟩
  · intro pre x r hxs hI
    obtain ⟨pre', he, hf⟩ := hI
    have hpp : pre' = pre := List.append_cancel_right (he.symm.trans hxs)
    subst hpp
    show ACall _ _ _ _ _ _
    refine call_ret (hP x) rfl ?_
    show ABr (P x) _ _
    refine ⟨fun h => ?_, fun h => ?_⟩
    · show ∃ H, _
      refine ⟨_, ⟨[(16, 16), (17, 17), (18, 18)], .old 16 16 _ _ _ rfl rfl (.vars _ _ (.cons _ _ _ _ (.d _) .nil)) (.old 17 17 _ _ _ rfl rfl (.vars _ _ (.cons _ _ _ _ (.d _) (.cons _ _ _ _ (.d _) .nil))) (.old 18 18 _ _ _ rfl rfl (.vars _ _ (.cons _ _ _ _ (.d _) .nil)) .nil)), rfl⟩, rfl, x, ?_, rfl⟩
      rw [he, List.find?_append, List.find?_eq_none.2 (fun y hy => by simp [hf y hy])]
      simp [List.find?, h]
    · show AEnd _ _ ∧ _
      refine ⟨⟨[(16, 16), (17, 17), (18, 18)], .old 16 16 _ _ _ rfl rfl (.vars _ _ (.cons _ _ _ _ (.d _) .nil)) (.old 17 17 _ _ _ rfl rfl (.vars _ _ (.cons _ _ _ _ (.d _) (.cons _ _ _ _ (.d _) .nil))) (.old 18 18 _ _ _ rfl rfl (.vars _ _ (.cons _ _ _ _ (.d _) .nil)) .nil)), rfl⟩, pre' ++ [x], by rw [he]; simp, fun y hy => ?_⟩
      rcases List.mem_append.1 hy with hy | hy
      · exact hf y hy
      · rw [List.mem_singleton.1 hy]; exact h
  · obtain ⟨pre, he, hf⟩ := hI
    rw [List.append_nil] at he
    have hn : (cellsAll l).find? P = none := List.find?_eq_none.2 (fun y hy => by simp [hf y (he ▸ hy)])
    rw [hn]
    show ARet _ _ _
    exact ret_d rfl ⟨rfl, rfl⟩
  · rintro e H ⟨rfl, x, hx, rfl⟩
    refine ⟨rfl, ?_⟩
    rw [hx]
    show ARet _ _ _
    exact ret_d rfl ⟨rfl, rfl⟩

theorem place_at_spec (a : Int) (x : Int × Int) : Spec X 79 [] [.int a, .agg [.d (DV.int x.1), .d (DV.int x.2)]] (Ret [] (.bo (decide (a = x.1)))) := by
  refine spec_go X_ok Tryz.f79 (by kernel_rfl) (by kernel_rfl) (by kernel_rfl) fun hb hH => ⟨rfl, ?_⟩
  show ARet _ _ _
  exact ret_bo rfl ⟨rfl, rfl⟩

/-- The cell that begins at an address. -/
def cellAtO (l : List Page) (a : Int) : Option (Int × Int) := (cellsAll l).find? fun x => decide (a = x.1)
def roomAt (l : List Page) (a : Int) : Int := match cellAtO l a with | some x => x.2 | none => 0

theorem firstCN {l : List Page} {g : Nat} {a : Int} {P : Int × Int → Bool} (hP : ∀ x : Int × Int, Spec X g [] [.int a, .agg [.d (DV.int x.1), .d (DV.int x.2)]] (Ret [] (.bo (P x)))) {o : Option (Int × Int)} (h : (cellsAll l).find? P = o) :
    Spec X 61 [] [.c (.d (.sl .page l)), .c (.d (.fn g [DV.int a] []))] (Ret [] (firstT o)) := by
  subst h
  exact firstC_spec l g a P hP

theorem Room_spec (l : List Page) (a : Int) : Spec X 42 [] [.c (.d (.sl .page l)), .int a] (Ret [] (.int (roomAt l a))) := by
  refine spec_go X_ok Tryz.f42 (by kernel_rfl) (by kernel_rfl) (by kernel_rfl) fun hb hH => ⟨rfl, ?_⟩
  unfold roomAt cellAtO
  cases h : (cellsAll l).find? fun x => decide (a = x.1) with
  | none =>
    show ACall _ _ _ _ _ _
    refine call_ret (firstCN (place_at_spec a) h) rfl ?_
    show ARet _ _ _
    exact ret_d rfl ⟨rfl, rfl⟩
  | some x =>
    show ACall _ _ _ _ _ _
    refine call_ret (firstCN (place_at_spec a) h) rfl ?_
    show ARet _ _ _
    exact ret_d rfl ⟨rfl, rfl⟩
end Go.Abs

namespace Go.Abs

theorem clsWN {c : Int} (h : 0 ≤ c ∧ c ≤ 2) : (clsW c = 2 ∧ clsN c = 8) ∨ (clsW c = 4 ∧ clsN c = 4) ∨ (clsW c = 8 ∧ clsN c = 2) := by
  unfold clsW clsN
  by_cases h0 : c = 0
  · simp [h0]
  · by_cases h1 : c = 1
    · simp [h1]
    · have h2 : c = 2 := by omega
      simp [h2]

/-- A cell lies on its page. -/
theorem mem_cellsOn {p : Page} {a : Int} {x : Int × Int} (hp : pageOk p) (h : x ∈ cellsOn p a) :
    (p.kind = 1 ∧ x.2 = clsW p.arg ∧ ∃ k : Nat, (k : Int) < clsN p.arg ∧ x.1 = a + k * clsW p.arg) ∨ (p.kind = 2 ∧ x = (a, p.arg * 16)) := by
  unfold cellsOn at h
  split at h
  · rename_i hk
    right
    exact ⟨hk, List.mem_singleton.1 h⟩
  · split at h
    · rename_i hk
      left
      obtain ⟨k, hk', rfl⟩ := List.mem_map.1 h
      rw [List.mem_range] at hk'
      exact ⟨hk, rfl, k, by omega, rfl⟩
    · cases h

theorem mem_cellsFrom {l : List Page} {i : Nat} {x : Int × Int} (h : x ∈ cellsFrom l i) : ∃ j, i ≤ j ∧ j < l.length ∧ x ∈ cellsOn (l.getD j default) (16 * ((j : Int) + 1)) := by
  unfold cellsFrom at h
  obtain ⟨j, hj, hx⟩ := List.mem_flatMap.1 h
  obtain ⟨k, hk, e⟩ := List.mem_iff_getElem.1 hj
  simp at e hk
  subst e
  exact ⟨i + k, by omega, by omega, hx⟩

theorem cellsFrom_mem {l : List Page} {i j : Nat} {x : Int × Int} (h1 : i ≤ j) (h2 : j < l.length) (hx : x ∈ cellsOn (l.getD j default) (16 * ((j : Int) + 1))) : x ∈ cellsFrom l i := by
  unfold cellsFrom
  refine List.mem_flatMap.2 ⟨j, ?_, hx⟩
  refine List.mem_iff_getElem.2 ⟨j - i, by simp; omega, ?_⟩
  simp; omega

/-- Where a cell is. -/
structure CellOf (l : List Page) (x : Int × Int) (i : Nat) : Prop where
  lt : i < l.length
  mem : x ∈ cellsOn (l.getD i default) (16 * ((i : Int) + 1))
  lo : 16 * ((i : Int) + 1) ≤ x.1
  hi : x.1 < 16 * ((i : Int) + 2)
  pos : 0 < x.2
  div : x.1 / 16 - 1 = i
  kind : ((l.getD i default).kind = 1 ∧ 0 ≤ (l.getD i default).arg ∧ (l.getD i default).arg ≤ 2 ∧ x.1 + x.2 ≤ 16 * ((i : Int) + 2) ∧ x.2 = clsW (l.getD i default).arg) ∨ ((l.getD i default).kind = 2 ∧ 1 ≤ (l.getD i default).arg ∧ (l.getD i default).arg ≤ 4 ∧ x.1 = 16 * ((i : Int) + 1) ∧ x.2 = (l.getD i default).arg * 16)

theorem cellOf_on {l : List Page} {x : Int × Int} {i : Nat} (hi : i < l.length) (hp : pageOk (l.getD i default)) (hx : x ∈ cellsOn (l.getD i default) (16 * ((i : Int) + 1))) : CellOf l x i := by
  have key : 16 * ((i : Int) + 1) ≤ x.1 ∧ x.1 < 16 * ((i : Int) + 2) ∧ 0 < x.2 ∧ (((l.getD i default).kind = 1 ∧ 0 ≤ (l.getD i default).arg ∧ (l.getD i default).arg ≤ 2 ∧ x.1 + x.2 ≤ 16 * ((i : Int) + 2) ∧ x.2 = clsW (l.getD i default).arg) ∨ ((l.getD i default).kind = 2 ∧ 1 ≤ (l.getD i default).arg ∧ (l.getD i default).arg ≤ 4 ∧ x.1 = 16 * ((i : Int) + 1) ∧ x.2 = (l.getD i default).arg * 16)) := by
    rcases mem_cellsOn hp hx with ⟨hk, h2, k, hkn, h1⟩ | ⟨hk, rfl⟩
    · have ha := hp.1 hk
      rcases clsWN ha with ⟨hw, hn⟩ | ⟨hw, hn⟩ | ⟨hw, hn⟩ <;> rw [hw] at h2 h1 <;> rw [hn] at hkn <;>
        exact ⟨by omega, by omega, by omega, .inl ⟨hk, ha.1, ha.2, by omega, by rw [hw]; exact h2⟩⟩
    · have ha := hp.2 hk
      exact ⟨Int.le_refl _, by show 16 * ((i : Int) + 1) < _; omega, by show 0 < (l.getD i default).arg * 16; omega, .inr ⟨hk, ha.1, ha.2, rfl, rfl⟩⟩
  obtain ⟨h1, h2, h3, h4⟩ := key
  exact ⟨hi, hx, h1, h2, h3, by omega, h4⟩

theorem cellOf_mem {l : List Page} {x : Int × Int} (h : x ∈ cellsAll l) : mayP l = true ∧ ∃ i, CellOf l x i := by
  unfold cellsAll at h
  split at h
  · rename_i hm
    obtain ⟨i, _, hi, hx⟩ := mem_cellsFrom h
    exact ⟨hm, i, cellOf_on hi ((mayP_ok hm).1 i hi) hx⟩
  · cases h

/-- One address begins one cell at most; they stand in their order. -/
theorem cellsOn_sorted {p : Page} {a : Int} (hp : pageOk p) : (cellsOn p a).Pairwise (fun x y => x.1 + x.2 ≤ y.1) := by
  unfold cellsOn
  split
  · exact List.pairwise_singleton _ _
  · split
    · rename_i hk
      rw [List.pairwise_map]
      refine List.Pairwise.imp ?_ (List.pairwise_lt_range)
      intro i j hij
      have ha := hp.1 hk
      rcases clsWN ha with ⟨hw, hn⟩ | ⟨hw, hn⟩ | ⟨hw, hn⟩ <;> rw [hw] <;> simp <;> omega
    · exact List.Pairwise.nil

theorem cellsFrom_sorted {l : List Page} (hp : ∀ i, i < l.length → pageOk (l.getD i default)) : ∀ (n i : Nat), l.length - i = n → (cellsFrom l i).Pairwise (fun x y => x.1 < y.1)
  | 0, i, h => by rw [cellsFrom_end (by omega)]; exact List.Pairwise.nil
  | n + 1, i, h => by
    have hi : i < l.length := by omega
    rw [cellsFrom_step hi, List.pairwise_append]
    refine ⟨?_, cellsFrom_sorted hp n (i + 1) (by omega), ?_⟩
    · refine List.Pairwise.imp_of_mem ?_ (cellsOn_sorted (hp i hi))
      intro x y hx _ h
      have := (cellOf_on hi (hp i hi) hx).pos
      omega
    · intro x hx y hy
      obtain ⟨j, hj1, hj2, hy'⟩ := mem_cellsFrom hy
      have h1 := (cellOf_on hi (hp i hi) hx).hi
      have h2 := (cellOf_on hj2 (hp j hj2) hy').lo
      omega

theorem cellsAll_sorted (l : List Page) : (cellsAll l).Pairwise (fun x y => x.1 < y.1) := by
  unfold cellsAll
  split
  · rename_i hm
    exact cellsFrom_sorted (mayP_ok hm).1 _ 0 rfl
  · exact List.Pairwise.nil

theorem starts_sorted (l : List Page) : (cellStarts l).Pairwise (· < ·) := by
  unfold cellStarts
  rw [List.pairwise_map]
  exact cellsAll_sorted l

theorem cellAtO_mem {l : List Page} {x : Int × Int} (h : x ∈ cellsAll l) : cellAtO l x.1 = some x := by
  have hs := cellsAll_sorted l
  unfold cellAtO
  generalize cellsAll l = cs at h hs
  induction cs with
  | nil => cases h
  | cons y r ih =>
    rw [List.pairwise_cons] at hs
    rcases List.mem_cons.1 h with rfl | h
    · simp [List.find?]
    · have := hs.1 x h
      have hne : ¬ x.1 = y.1 := by omega
      simp [List.find?, hne]
      exact ih h hs.2

theorem roomAt_mem {l : List Page} {x : Int × Int} (h : x ∈ cellsAll l) : roomAt l x.1 = x.2 := by unfold roomAt; rw [cellAtO_mem h]

theorem roomAt_pos {l : List Page} {a : Int} (h : roomAt l a ≠ 0) : (a, roomAt l a) ∈ cellsAll l := by
  unfold roomAt at h ⊢
  cases hc : cellAtO l a with
  | none => rw [hc] at h; exact absurd rfl h
  | some x =>
    unfold cellAtO at hc
    have h1 := List.mem_of_find?_eq_some hc
    have h2 : a = x.1 := by simpa using List.find?_some hc
    rw [h2]
    exact h1

theorem mem_starts {l : List Page} {a : Int} : a ∈ cellStarts l ↔ roomAt l a ≠ 0 := by
  constructor
  · intro h
    obtain ⟨x, hx, rfl⟩ := List.mem_map.1 h
    rw [roomAt_mem hx]
    obtain ⟨_, i, hi⟩ := cellOf_mem hx
    have := hi.pos
    omega
  · intro h
    exact List.mem_map.2 ⟨_, roomAt_pos h, rfl⟩

theorem roomAt_nonneg (l : List Page) (a : Int) : 0 ≤ roomAt l a := by
  by_cases h : roomAt l a = 0
  · omega
  · obtain ⟨_, i, hi⟩ := cellOf_mem (roomAt_pos h)
    have := hi.pos
    simp at this
    omega
end Go.Abs
