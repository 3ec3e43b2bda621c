/- Walks: any head is set as the document says. -/
import Derived.Test.YtpkngagppfoccaaGreatDoorWRefOwn
import Derived.Test.YtpkngagppfoccaaGreatDoorWShadeK
set_option linter.all false
set_option linter.unusedVariables false
set_option linter.unusedSimpArgs false
namespace Go.Abs
open Go.Proofs Go.Proofs.YtpkngagppfoccaaGreatDoor
set_option maxRecDepth 8000


theorem rSet7_spec (g : Hp) (a : Int) (x : Hd) (hl : g.light) (hs : g.small) (hw : ∀ x ∈ g.w, I64 x) : Spec X 35 [] [g.tv, .int a, x.tv] (Ret [] (.tup [(setH g a x).tv, .int (setE g a x)])) := by
  refine spec_go X_ok Tryz.f35 (by kernel_rfl) (by kernel_rfl) (by kernel_rfl) fun hb hH => ⟨rfl, ?_⟩
  show ACall _ _ _ _ _ _
  refine call_ret (rHead7_spec g a hl hw) rfl ?_
  show ABr (headE g a != 0) _ _
  refine ⟨fun h => ?_, fun h => ?_⟩
  · have h0 : headE g a ≠ 0 := by simpa using h
    have hE : setE g a x = headE g a := by unfold setE; rw [decide_eq_false h0]; rfl
    rw [setH_no hE h0, hE]
    show ARet _ _ _
    exact ⟨[], [], _, .cons _ _ _ _ (.agg _ _ (.cons _ _ _ _ (.nilsl .int) (.cons _ _ _ _ (.nilsl .page) (.cons _ _ _ _ (.nilsl .int) (.cons _ _ _ _ (.nilsl .int) (.cons _ _ _ _ (.nilsl .int) (.cons _ _ _ _ (.nilsl .bool) .nil))))))) (.cons _ _ _ _ .same .nil), .nil, rfl, rfl, rfl⟩
  · have h0 : headE g a = 0 := by simpa using h
    obtain ⟨hm, hr, hu⟩ := headE_of h0
    have hsh := mayH_shaped hm
    obtain ⟨_, _, hsl, _, _, h64⟩ := shapedH_of hsh
    obtain ⟨a1, a2⟩ := room_adr (h := g) (a := a) hr
    show ACall _ _ _ _ _ _
    refine call_ret (rhMay_spec x) rfl ?_
    have hiff : (bif (bif !decide x.May then true else !x.used) then true else x.n != (headH g a).n) = !decide (x.May ∧ x.used = true ∧ x.n = (headH g a).n) := by
      by_cases c1 : x.May
      · cases c2 : x.used with
        | false => simp [c1, c2]
        | true =>
          by_cases c3 : x.n = (headH g a).n <;> simp [c1, c2, c3]
      · simp [c1]
    show ABr (bif (bif !decide x.May then true else !x.used) then true else x.n != (headH g a).n) _ _
    rw [hiff]
    refine ⟨fun h => ?_, fun h => ?_⟩
    · have hc : decide (x.May ∧ x.used = true ∧ x.n = (headH g a).n) = false := by
        cases hd : decide (x.May ∧ x.used = true ∧ x.n = (headH g a).n) with
        | false => rfl
        | true => rw [hd] at h; exact absurd h (by decide)
      have hE : setE g a x = 1 := by unfold setE; rw [h0, hc]; rfl
      rw [setH_no hE (by decide), hE]
      show ARet _ _ _
      exact ⟨[], [], _, .cons _ _ _ _ (.agg _ _ (.cons _ _ _ _ (.nilsl .int) (.cons _ _ _ _ (.nilsl .page) (.cons _ _ _ _ (.nilsl .int) (.cons _ _ _ _ (.nilsl .int) (.cons _ _ _ _ (.nilsl .int) (.cons _ _ _ _ (.nilsl .bool) .nil))))))) (.cons _ _ _ _ .same .nil), .nil, rfl, rfl, rfl⟩
    · have hc : decide (x.May ∧ x.used = true ∧ x.n = (headH g a).n) = true := by
        cases hd : decide (x.May ∧ x.used = true ∧ x.n = (headH g a).n) with
        | true => rfl
        | false => rw [hd] at h; exact absurd h (by decide)
      have hE : setE g a x = 0 := by unfold setE; rw [h0, hc]; rfl
      obtain ⟨hM, hU, _⟩ := of_decide_eq_true hc
      have ew : IntKind.i64.wrap (a - 16) = a - 16 := wrap64 (by omega) (by omega)
      rw [setH_yes hE, hE]
      show ACall _ _ _ _ _ _
      refine .mk _ (rOwn7_spec g hs) fun H r hq _ _ => ?_
      obtain ⟨rfl, rfl⟩ := hq
      refine ⟨.inl rfl, ?_⟩
      show ADCall _ _ _ _ _ _
      refine .mk _ _ (rWord_spec x hM hU) rfl ?_
      show AOb ((0 : Int) ≤ IntKind.i64.wrap (a - 16) ∧ IntKind.i64.wrap (a - 16) < (g.w.length : Int)) _
      rw [ew]
      refine ⟨by omega, ?_⟩
      show AOb ((a - 16).toNat < g.w.length) _
      refine ⟨by omega, ?_⟩
      show ARet _ _ _
      exact ⟨[], [], [(putH g a x.word).tv, .int 0], .cons _ _ _ _ (.agg _ _ (.cons _ _ _ _ (.frz_eq (k := .int) (l := g.w.set (a - 16).toNat x.word) rfl rfl) (.cons _ _ _ _ (.frz_eq (k := .page) (l := g.pages) rfl rfl) (.cons _ _ _ _ (.d _) (.cons _ _ _ _ (.d _) (.cons _ _ _ _ (.d _) (.cons _ _ _ _ (.frz_eq (k := .bool) (l := g.cards) rfl rfl) .nil))))))) (.cons _ _ _ _ .same .nil), .nil, rfl, rfl, rfl⟩

end Go.Abs
