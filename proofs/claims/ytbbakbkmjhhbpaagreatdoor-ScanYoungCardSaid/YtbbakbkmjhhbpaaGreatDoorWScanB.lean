/- Walks: a step of going through cards keeps fields, pages and free cells. -/
import Derived.Test.YtbbakbkmjhhbpaaGreatDoorWScanA
set_option linter.all false
set_option linter.unusedVariables false
set_option linter.unusedSimpArgs false
namespace Go.Abs
open Go.Proofs Go.Proofs.YtbbakbkmjhhbpaaGreatDoor
set_option maxRecDepth 8000

set_option maxHeartbeats 2000000 in
theorem ScanKeeps_spec (g : Hp) (hw : ∀ x ∈ g.w, I64 x) (c : Col) : Spec X 6 [] [g.tv, c.tv] (Ret [] (.bo true)) := by
  refine spec_go X_ok Tryz.f6 (by kernel_rfl) (by kernel_rfl) (by kernel_rfl) fun hb hH => ⟨rfl, ?_⟩
  show ACall _ _ _ _ _ _
  refine call_ret (awake17_spec) rfl ?_
  show ACall _ _ _ _ _ _
  refine call_ret (few17_spec g c) rfl ?_
  cases hf : few11 g c with
  | false =>
    show AIf _ _ _
    refine ⟨fun h => absurd h.1 (by simp), fun _ => ?_⟩
    show AOb _ _
    refine ⟨by simp, ?_⟩
    show ABr _ _ _
    refine ⟨fun _ => ?_, fun h => absurd h (by simp)⟩
    show ARet _ _ _
    exact ret_d rfl ⟨rfl, rfl⟩
  | true =>
    obtain ⟨f1, f2, f3, f4, f5⟩ := few17_of hf
    show AIf _ _ _
    refine ⟨fun _ => ?_, fun h => absurd ⟨(by rfl), trivial⟩ h⟩
    show ACall _ _ _ _ _ _
    refine call_ret (hHMay0_spec g f2) rfl ?_
    cases hm : mayH g [] with
    | false =>
      show ABr _ _ _
      refine ⟨fun _ => ?_, fun h => absurd h (by simp)⟩
      show ARet _ _ _
      exact ret_d rfl ⟨rfl, rfl⟩
    | true =>
      show ABr _ _ _
      refine ⟨fun h => absurd h (by simp), fun _ => ?_⟩
      have hK := (scan_step g c).keep
      have hS := (SK.refl g c f4).step hK
      have kl := hS.light f2
      have ks := hS.small f3
      show ACall _ _ _ _ _ _
      refine call_ret (sStep_spec g c f2 f3 f5) rfl ?_
      generalize hk : (scanS g c).1 = k at *
      generalize hd : (scanS g c).2 = d at *
      have e1 := hK.wlen
      have e2 := hK.clen
      have hW130 : g.w.length ≤ 130 := by have := of_decide_eq_true f1; omega
      have hC20 : g.cards.length ≤ 20 := by have := of_decide_eq_true f1; omega
      show ABr (bif !decide ((k.w.length : Int) = (g.w.length : Int)) then true else !decide ((k.cards.length : Int) = (g.cards.length : Int))) _ _
      rw [e1, e2]
      show ABr _ _ _
      refine ⟨fun h => absurd h (by simp), fun _ => ?_⟩
      show ∃ n, _
      refine ⟨0, ALoop.inv (ι := {i : Nat // i ≤ g.w.length}) (fun q => ⟨[(2, .c (.d (.rp (g.enc)))), (3, .c (.d (.rp (c.enc)))), (7, .c (.d (.rp (k.enc)))), (8, .c (.d (.rp (d.enc)))), (9, .int (q.1))], [], 32⟩) (fun q => g.w.length - q.1) ⟨0, Nat.zero_le _⟩ ?_ ?_⟩
      · exact ⟨[], (by repeat' first | exact .nil | refine .cons _ _ _ ?_ ?_ | exact .same | exact .c _ _ (.own _ _ rfl) | exact .c _ _ (.ptr _ _ _ _ rfl) | exact .c _ _ (.frz _ _ rfl) | exact .any _), (by exact .nil), (by rfl)⟩
      rintro ⟨i, hi⟩
      show ABr (decide ((i : Int) < (g.w.length : Int))) _ _
      refine ⟨fun h => ?_, fun h => ?_⟩
      · have hlt : i < g.w.length := by have := of_decide_eq_true h; omega
        have wi : IntKind.i64.wrap ((i : Int) + 1) = ((i + 1 : Nat) : Int) := wrapP (i := i) (by unfold maxN; omega)
        have w16 : IntKind.i64.wrap (16 + (i : Int)) = 16 + (i : Int) := wrap64 (by omega) (by omega)
        show AOb ((0 : Int) ≤ (i : Int) ∧ (i : Int) < (k.w.length : Int)) _
        refine ⟨by omega, ?_⟩
        show AOb ((0 : Int) ≤ (i : Int) ∧ (i : Int) < (g.w.length : Int)) _
        refine ⟨by omega, ?_⟩
        show ABr (k.w.getD i default != g.w.getD i default) _ _
        refine ⟨fun h => ?_, fun h => ?_⟩
        · have h1 := hK.word i (bne_iff_ne.1 h)
          show ADCall _ _ _ _ _ _
          refine .mk _ _ (rColour_spec g c (IntKind.i64.wrap (16 + (i : Int))) f2 hw) rfl ?_
          have h2 : atK g c (IntKind.i64.wrap (16 + (i : Int))) = 1 := by rw [w16]; exact h1
          show ABr (!decide (atK g c (IntKind.i64.wrap (16 + (i : Int))) = 1)) _ _
          rw [decide_eq_true h2]
          show ABr _ _ _
          refine ⟨fun h => absurd h (by decide), fun _ => ?_⟩
          show ARound _ _ _ _
          exact ⟨⟨i + 1, hlt⟩, (by dsimp only; omega), [], (by repeat' first | exact .nil | refine .cons _ _ _ ?_ ?_ | exact .int_eq wi | exact .same | exact .c _ _ (.own _ _ rfl) | exact .c _ _ (.ptr _ _ _ _ rfl) | exact .c _ _ (.frz _ _ rfl) | exact .any _), (by exact .nil), (by rfl)⟩
        · show ABr _ _ _
          refine ⟨fun h => absurd h (by decide), fun _ => ?_⟩
          show ARound _ _ _ _
          exact ⟨⟨i + 1, hlt⟩, (by dsimp only; omega), [], (by repeat' first | exact .nil | refine .cons _ _ _ ?_ ?_ | exact .int_eq wi | exact .same | exact .c _ _ (.own _ _ rfl) | exact .c _ _ (.ptr _ _ _ _ rfl) | exact .c _ _ (.frz _ _ rfl) | exact .any _), (by exact .nil), (by rfl)⟩
      · show ∃ n, _
        refine ⟨0, ALoop.inv (ι := {i : Nat // i ≤ g.cards.length}) (fun q => ⟨[(2, .c (.d (.rp (g.enc)))), (3, .c (.d (.rp (c.enc)))), (7, .c (.d (.rp (k.enc)))), (8, .c (.d (.rp (d.enc)))), (10, .int (q.1))], [], 32⟩) (fun q => g.cards.length - q.1) ⟨0, Nat.zero_le _⟩ ?_ ?_⟩
        · exact ⟨[], (by repeat' first | exact .nil | refine .cons _ _ _ ?_ ?_ | exact .same | exact .c _ _ (.own _ _ rfl) | exact .c _ _ (.ptr _ _ _ _ rfl) | exact .c _ _ (.frz _ _ rfl) | exact .any _), (by exact .nil), (by rfl)⟩
        rintro ⟨j, hj⟩
        show ABr (decide ((j : Int) < (g.cards.length : Int))) _ _
        refine ⟨fun h => ?_, fun h => ?_⟩
        · have hlt : j < g.cards.length := by have := of_decide_eq_true h; omega
          have wj : IntKind.i64.wrap ((j : Int) + 1) = ((j + 1 : Nat) : Int) := wrapP (i := j) (by unfold maxN; omega)
          show AOb ((0 : Int) ≤ (j : Int) ∧ (j : Int) < (k.cards.length : Int)) _
          refine ⟨by omega, ?_⟩
          show AOb ((0 : Int) ≤ (j : Int) ∧ (j : Int) < (g.cards.length : Int)) _
          refine ⟨by omega, ?_⟩
          show ABr (!(k.cards.getD j false == g.cards.getD j false)) _ _
          refine ⟨fun h => ?_, fun h => ?_⟩
          · have h1 := hK.card j (by simpa using h)
            show ABr (!decide ((j : Int) = c.card)) _ _
            rw [decide_eq_true h1]
            show ABr _ _ _
            refine ⟨fun h => absurd h (by decide), fun _ => ?_⟩
            show ARound _ _ _ _
            exact ⟨⟨j + 1, hlt⟩, (by dsimp only; omega), [], (by repeat' first | exact .nil | refine .cons _ _ _ ?_ ?_ | exact .int_eq wj | exact .same | exact .c _ _ (.own _ _ rfl) | exact .c _ _ (.ptr _ _ _ _ rfl) | exact .c _ _ (.frz _ _ rfl) | exact .any _), (by exact .nil), (by rfl)⟩
          · show ABr _ _ _
            refine ⟨fun h => absurd h (by decide), fun _ => ?_⟩
            show ARound _ _ _ _
            exact ⟨⟨j + 1, hlt⟩, (by dsimp only; omega), [], (by repeat' first | exact .nil | refine .cons _ _ _ ?_ ?_ | exact .int_eq wj | exact .same | exact .c _ _ (.own _ _ rfl) | exact .c _ _ (.ptr _ _ _ _ rfl) | exact .c _ _ (.frz _ _ rfl) | exact .any _), (by exact .nil), (by rfl)⟩
        · show ACall _ _ _ _ _ _
          refine call_ret (rOwn7f_spec k ks) rfl ?_
          have heq : (⟨g.w, k.pages, k.free, g.cards⟩ : Hp) = g := by rw [hK.pages, hK.free]
          show ACall _ _ _ _ _ _
          refine call_ret (hSame_spec ⟨g.w, k.pages, k.free, g.cards⟩ g) rfl ?_
          rw [decide_eq_true heq]
          show AIf ((bif true then decide (d.epoch = c.epoch) else false) = true ∧ True) _ _
          refine ⟨fun _ => ?_, fun h => absurd ⟨by rw [decide_eq_true hK.epoch]; rfl, trivial⟩ h⟩
          show ACall _ _ _ _ _ _
          refine call_ret (hHMay0_spec k kl) rfl ?_
          rw [show mayH k [] = true by rw [hK.may]; exact hm]
          show ARet _ _ _
          exact ret_d rfl ⟨rfl, rfl⟩
end Go.Abs
