/- Walks: which cards are clean while they are gone through. -/
import Derived.Test.YtbbakbkmjhhbpaaGreatDoorWScanD
set_option linter.all false
set_option linter.unusedVariables false
set_option linter.unusedSimpArgs false
namespace Go.Abs
open Go.Proofs Go.Proofs.YtbbakbkmjhhbpaaGreatDoor
set_option maxRecDepth 8000

theorem ScRun.unclean {g k : Hp} {c d : Col} {i : Nat} (h : ScRun g c i k d) (hcl : cleanN g = 0) (hpos : 0 < cleanN k) : d.phase = 4 ∧ d.seek ≠ 0 ∧ cardOf k (cleanN k) = d.card := by
  rcases h with ⟨p, h⟩ | h
  · obtain ⟨h1, h2, h3⟩ := clean_some hpos
    have hO := (h.sk.isO _).1 h1
    have hY := (h.sk.hasY hO.1).1 h2
    have hd := clean_zero hcl hO hY
    rw [dirty_card hO] at hd
    rw [dirty_card h1] at h3
    have hb := o_card hO
    have hc : crd (cleanN k) = d.card ∧ d.seek ≠ 0 := by
      by_cases h5 : crd (cleanN k) < d.card
      · exact absurd (h.lo _ hO h5 hd hY) (by rw [h3]; decide)
      · have hne : ¬ (d.card < ((crd (cleanN k)).toNat : Int) ∨ (((crd (cleanN k)).toNat : Int) = d.card ∧ d.seek = 0)) := fun q => by
          have := h.hi _ q
          rw [h3, hd] at this
          cases this
        omega
    refine ⟨h.phase, hc.2, ?_⟩
    rw [← hc.1]
    obtain ⟨hm, _, _⟩ := headE_of h1.1
    have hb2 := o_card h1
    obtain ⟨_, _, q3, q4, _, _⟩ := shapedH_of (mayH_shaped hm)
    rw [cardOf_yes (cardE_mk (a := cleanN k) hm ⟨by omega, by omega⟩)]
    rfl
  · have := h.clean hcl
    omega

set_option maxHeartbeats 4000000 in
theorem ScanCards_spec (g : Hp) (hw : ∀ x ∈ g.w, I64 x) (c : Col) (n : Int) : Spec X 5 [] [g.tv, c.tv, .int n] (Ret [] (.bo true)) := by
  refine spec_go X_ok Tryz.f5 (by kernel_rfl) (by kernel_rfl) (by kernel_rfl) fun hb hH => ⟨rfl, ?_⟩
  show ACall _ _ _ _ _ _
  refine call_ret (awake17_spec) rfl ?_
  show ACall _ _ _ _ _ _
  refine call_ret (few17_spec g c) rfl ?_
  cases hf : few11 g c with
  | false =>
    show AIf _ _ _
    refine ⟨fun h => absurd h.1 (by simp), fun _ => ?_⟩
    show AOb _ _
    refine ⟨by simp, ?_⟩
    show AIf _ _ _
    refine ⟨fun h => absurd h.1 (by simp), fun _ => ?_⟩
    show AOb _ _
    refine ⟨by simp, ?_⟩
    show ABr _ _ _
    refine ⟨fun _ => ?_, fun h => absurd h (by simp)⟩
    show ARet _ _ _
    exact ret_d rfl ⟨rfl, rfl⟩
  | true =>
    obtain ⟨f1, f2, f3, f4, f5⟩ := few17_of hf
    show AIf ((bif (bif !true then true else !true) then true else !decide (c.phase = 4)) = false ∧ True) _ _
    by_cases hp : c.phase = 4
    · rw [decide_eq_true hp]
      show AIf _ _ _
      refine ⟨fun _ => ?_, fun h => absurd ⟨(by rfl), trivial⟩ h⟩
      show ACall _ _ _ _ _ _
      refine call_ret (hHMay0_spec g f2) rfl ?_
      cases hm : mayH g [] with
      | false =>
        show AIf _ _ _
        refine ⟨fun h => absurd h.1 (by simp), fun _ => ?_⟩
        show AOb _ _
        refine ⟨by simp, ?_⟩
        show ABr _ _ _
        refine ⟨fun _ => ?_, fun h => absurd h (by simp)⟩
        show ARet _ _ _
        exact ret_d rfl ⟨rfl, rfl⟩
      | true =>
        show AIf ((bif (bif !true then true else !decide (c.card = 0)) then true else !decide (c.seek = 0)) = false ∧ True) _ _
        by_cases hx : c.card = 0 ∧ c.seek = 0
        · obtain ⟨x1, x2⟩ := hx
          have hc : (bif (bif !true then true else !decide (c.card = 0)) then true else !decide (c.seek = 0)) = false := by
            rw [decide_eq_true x1, decide_eq_true x2]; rfl
          refine ⟨fun _ => ?_, fun h => absurd ⟨hc, trivial⟩ h⟩
          show ACall _ _ _ _ _ _
          refine call_ret (tClean_spec g f2 hw) rfl ?_
          show ABr (bif decide (cleanN g > 0) then true else decide (n > 300)) _ _
          refine ⟨fun h => ?_, fun h => ?_⟩
          · show ARet _ _ _
            exact ret_d rfl ⟨rfl, rfl⟩
          · have hb2 : ¬ cleanN g > 0 ∧ ¬ n > 300 := by
              by_cases h1 : cleanN g > 0
              · rw [decide_eq_true h1] at h; exact absurd h (by simp)
              · rw [decide_eq_false h1] at h
                exact ⟨h1, of_decide_eq_false h⟩
            have hcl : cleanN g = 0 := by have := clean_nonneg g; omega
            have hn := hb2.2
            have hC20 : g.cards.length ≤ 20 := by have := of_decide_eq_true f1; omega
            have hrun := sn_run hm hp x1 x2 f4
            show ∃ n, _
            refine ⟨0, ALoop.inv (ι := {i : Nat // i ≤ n.toNat}) (fun q => ⟨[(2, .int (n)), (3, .c (.ptr 0 0 0)), (4, .c (.ptr 1 0 0)), (9, .int (q.1))], [(0, .vars ((snN g c q.1).1.enc.map .d)), (1, .vars ((snN g c q.1).2.enc.map .d))], 96⟩) (fun q => n.toNat - q.1) ⟨0, Nat.zero_le _⟩ ?_ ?_⟩
            · exact ⟨[(32, 0), (64, 1)], (by repeat' first | exact .nil | refine .cons _ _ _ ?_ ?_ | exact .same | exact .c _ _ (.own _ _ rfl) | exact .c _ _ (.ptr _ _ _ _ rfl) | exact .c _ _ (.frz _ _ rfl) | exact .any _), (by exact .old 0 32 _ _ _ rfl rfl (.vars _ _ (LeL_refl rfl)) (.old 1 64 _ _ _ rfl rfl (.vars _ _ (LeL_refl rfl)) .nil)), (by rfl)⟩
            rintro ⟨i, hi⟩
            have hi : i ≤ n.toNat := hi
            have hr := hrun i
            have hr2 := hrun (i + 1)
            have hK : SKeep (snN g c i).1 (snN g c (i + 1)).1 (snN g c i).2 (snN g c (i + 1)).2 := (scan_step (snN g c i).1 (snN g c i).2).keep
            have kl := hr.sk.light f2
            have kl2 := hr2.sk.light f2
            have kw2 := sn_w64 hw c (i + 1)
            have e1 := hr.sk.clen
            have e2 := hr.sk.wlen
            have e3 := hr2.sk.clen
            have e4 := hr2.sk.wlen
            show ABr (bif decide ((i : Int) < n) then decide ((snN g c i).2.phase = 4) else false) _ _
            refine ⟨fun h => ?_, fun h => ?_⟩
            · have hlt : (i : Int) < n := by
                by_cases h1 : (i : Int) < n
                · exact h1
                · rw [decide_eq_false h1] at h; exact absurd h (by simp)
              have wi : IntKind.i64.wrap ((i : Int) + 1) = ((i + 1 : Nat) : Int) := wrapP (i := i) (by unfold maxN; omega)
              show ACall _ _ _ _ _ _
              refine call_ret (sStep_spec (snN g c i).1 (snN g c i).2 kl (hr.sk.small f3) (work17 hr.sk.work)) rfl ?_
              show ABr (bif !decide (((snN g c (i + 1)).1.cards.length : Int) = ((snN g c i).1.cards.length : Int)) then true else !decide (((snN g c (i + 1)).1.w.length : Int) = ((snN g c i).1.w.length : Int))) _ _
              refine ⟨fun h => absurd h (by rw [e1, e2, e3, e4]; simp), fun _ => ?_⟩
              show ∃ n, _
              refine ⟨0, ALoop.inv (ι := {j : Nat // j ≤ g.cards.length}) (fun q => ⟨[(2, .int (n)), (3, .c (.ptr 0 0 0)), (4, .c (.ptr 1 0 0)), (9, .int ((i : Int))), (10, .c (.d (.rp ((snN g c (i + 1)).1.enc)))), (11, .c (.d (.rp ((snN g c (i + 1)).2.enc)))), (12, .int (q.1))], [(0, .vars ((snN g c i).1.enc.map .d)), (1, .vars ((snN g c i).2.enc.map .d))], 96⟩) (fun q => g.cards.length - q.1) ⟨0, Nat.zero_le _⟩ ?_ ?_⟩
              · exact ⟨[(0, 0), (1, 1)], (by repeat' first | exact .nil | refine .cons _ _ _ ?_ ?_ | exact .same | exact .c _ _ (.own _ _ rfl) | exact .c _ _ (.ptr _ _ _ _ rfl) | exact .c _ _ (.frz _ _ rfl) | exact .any _), (by exact .old 0 0 _ _ _ rfl rfl (.vars _ _ (LeL_refl rfl)) (.old 1 1 _ _ _ rfl rfl (.vars _ _ (LeL_refl rfl)) .nil)), (by rfl)⟩
              rintro ⟨j, hj⟩
              have hj : j ≤ g.cards.length := hj
              show ABr (decide ((j : Int) < ((snN g c i).1.cards.length : Int))) _ _
              refine ⟨fun h => ?_, fun h => ?_⟩
              · have hjl : j < g.cards.length := by have := of_decide_eq_true h; omega
                have wj : IntKind.i64.wrap ((j : Int) + 1) = ((j + 1 : Nat) : Int) := wrapP (i := j) (by unfold maxN; omega)
                show AOb ((0 : Int) ≤ (j : Int) ∧ (j : Int) < ((snN g c (i + 1)).1.cards.length : Int)) _
                refine ⟨by omega, ?_⟩
                show AOb ((0 : Int) ≤ (j : Int) ∧ (j : Int) < ((snN g c i).1.cards.length : Int)) _
                refine ⟨by omega, ?_⟩
                show ABr (!((snN g c (i + 1)).1.cards.getD j false == (snN g c i).1.cards.getD j false)) _ _
                refine ⟨fun h => ?_, fun h => ?_⟩
                · have h1 := hK.card j (by simpa using h)
                  show ABr (!decide ((j : Int) = (snN g c i).2.card)) _ _
                  refine ⟨fun h => absurd h (by rw [decide_eq_true h1]; decide), fun _ => ?_⟩
                  show ARound _ _ _ _
                  exact ⟨⟨j + 1, hjl⟩, (by dsimp only; omega), [(0, 0), (1, 1)], (by repeat' first | exact .nil | refine .cons _ _ _ ?_ ?_ | exact .int_eq wj | exact .same | exact .c _ _ (.own _ _ rfl) | exact .c _ _ (.ptr _ _ _ _ rfl) | exact .c _ _ (.frz _ _ rfl) | exact .any _), (by exact .old 0 0 _ _ _ rfl rfl (.vars _ _ (LeL_refl rfl)) (.old 1 1 _ _ _ rfl rfl (.vars _ _ (LeL_refl rfl)) .nil)), (by rfl)⟩
                · show ABr _ _ _
                  refine ⟨fun h => absurd h (by decide), fun _ => ?_⟩
                  show ARound _ _ _ _
                  exact ⟨⟨j + 1, hjl⟩, (by dsimp only; omega), [(0, 0), (1, 1)], (by repeat' first | exact .nil | refine .cons _ _ _ ?_ ?_ | exact .int_eq wj | exact .same | exact .c _ _ (.own _ _ rfl) | exact .c _ _ (.ptr _ _ _ _ rfl) | exact .c _ _ (.frz _ _ rfl) | exact .any _), (by exact .old 0 0 _ _ _ rfl rfl (.vars _ _ (LeL_refl rfl)) (.old 1 1 _ _ _ rfl rfl (.vars _ _ (LeL_refl rfl)) .nil)), (by rfl)⟩
              · show ACall _ _ _ _ _ _
                refine call_ret (tClean_spec (snN g c (i + 1)).1 kl2 kw2) rfl ?_
                show ACall _ _ _ _ _ _
                refine call_ret (rOf10_spec (snN g c (i + 1)).1 (cleanN (snN g c (i + 1)).1) kl2 kw2) rfl ?_
                show ABr (bif decide (cleanN (snN g c (i + 1)).1 > 0) then (bif (bif !decide ((snN g c (i + 1)).2.phase = 4) then true else decide ((snN g c (i + 1)).2.seek = 0)) then true else !decide (cardOf (snN g c (i + 1)).1 (cleanN (snN g c (i + 1)).1) = (snN g c (i + 1)).2.card)) else false) _ _
                refine ⟨fun h => absurd h ?_, fun _ => ?_⟩
                · by_cases h1 : cleanN (snN g c (i + 1)).1 > 0
                  · obtain ⟨q1, q2, q3⟩ := hr2.unclean hcl h1
                    rw [decide_eq_true h1, decide_eq_true q1, decide_eq_false q2, decide_eq_true q3]
                    decide
                  · rw [decide_eq_false h1]; simp
                · show ARound _ _ _ _
                  exact ⟨⟨i + 1, by show i + 1 ≤ n.toNat; omega⟩, (by dsimp only; omega), [(0, 0), (1, 1)], (by repeat' first | exact .nil | refine .cons _ _ _ ?_ ?_ | exact .int_eq wi | exact .same | exact .c _ _ (.own _ _ rfl) | exact .c _ _ (.ptr _ _ _ _ rfl) | exact .c _ _ (.frz _ _ rfl) | exact .any _), (by exact .old 0 0 _ _ _ rfl rfl (.vars _ _ (LeL_refl rfl)) (.old 1 1 _ _ _ rfl rfl (.vars _ _ (LeL_refl rfl)) .nil)), (by rfl)⟩
            · show ARet _ _ _
              exact ret_d rfl ⟨rfl, rfl⟩
        · have hc : (bif (bif !true then true else !decide (c.card = 0)) then true else !decide (c.seek = 0)) = true := by
            simp; omega
          refine ⟨fun h => absurd (hc.symm.trans h.1) (by decide), fun _ => ?_⟩
          show AOb _ _
          refine ⟨by exact hc, ?_⟩
          show ABr _ _ _
          refine ⟨fun _ => ?_, fun h => absurd h (by simp)⟩
          show ARet _ _ _
          exact ret_d rfl ⟨rfl, rfl⟩
    · rw [decide_eq_false hp]
      show AIf _ _ _
      refine ⟨fun h => absurd h.1 (by simp [hp]), fun _ => ?_⟩
      show AOb _ _
      refine ⟨by simp [hp], ?_⟩
      show AIf _ _ _
      refine ⟨fun h => absurd h.1 (by simp), fun _ => ?_⟩
      show AOb _ _
      refine ⟨by simp, ?_⟩
      show ABr _ _ _
      refine ⟨fun _ => ?_, fun h => absurd h (by simp)⟩
      show ARet _ _ _
      exact ret_d rfl ⟨rfl, rfl⟩
end Go.Abs
