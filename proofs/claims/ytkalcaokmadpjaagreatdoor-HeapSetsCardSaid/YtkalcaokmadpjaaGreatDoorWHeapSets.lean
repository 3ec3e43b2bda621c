/- Walks: any head is set as the document says. -/
import Derived.Test.YtkalcaokmadpjaaGreatDoorWRefOwn
import Derived.Test.YtkalcaokmadpjaaGreatDoorWShade2
set_option linter.all false
set_option linter.unusedVariables false
set_option linter.unusedSimpArgs false
namespace Go.Abs
open Go.Proofs Go.Proofs.YtkalcaokmadpjaaGreatDoor
set_option maxRecDepth 8000


theorem rNew2_spec (n : Int) : Spec X 63 [] [.int n] (Ret [] (.tup [.c (.d (.sl .int (newW n))), .int (newE n)])) := by
  refine spec_go X_ok Tryz.f63 (by kernel_rfl) (by kernel_rfl) (by kernel_rfl) fun hb hH => ⟨rfl, ?_⟩
  unfold newW newE
  have hc : (bif decide (n < 1) then true else decide (n > 64)) = !pgN n := by
    unfold pgN
    by_cases h1 : n < 1
    · rw [decide_eq_true h1, decide_eq_false (show ¬ (1 ≤ n ∧ n ≤ 64) by omega)]; rfl
    · rw [decide_eq_false h1]
      by_cases h2 : n > 64
      · rw [decide_eq_true h2, decide_eq_false (show ¬ (1 ≤ n ∧ n ≤ 64) by omega)]; rfl
      · rw [decide_eq_false h2, decide_eq_true (show 1 ≤ n ∧ n ≤ 64 by omega)]; rfl
  show ABr (bif decide (n < 1) then true else decide (n > 64)) _ _
  rw [hc]
  refine ⟨fun h => ?_, fun h => ?_⟩
  · have h : pgN n = false := by simpa using h
    rw [h]
    show ARet _ _ _
    exact ⟨[], [], _, .cons _ _ _ _ (.nilsl rfl) (.cons _ _ _ _ (.int_eq rfl) .nil), .nil, rfl, rfl, rfl⟩
  · have h : pgN n = true := by simpa using h
    rw [h]
    have h' := of_decide_eq_true h
    have ew : IntKind.i64.wrap (16 * n) = n * 16 := by rw [wrap64 (by omega) (by omega)]; omega
    show AOb ((0 : Int) ≤ IntKind.i64.wrap (16 * n) ∧ IntKind.i64.wrap (16 * n) ≤ IntKind.i64.wrap (16 * n) ∧ IntKind.i64.wrap (16 * n) ≤ (most : Int)) _
    rw [ew]
    refine ⟨by unfold most; omega, ?_⟩
    show ARet _ _ _
    exact ⟨[], [], [.c (.d (.sl .int (zer (n * 16).toNat))), .int 0], .cons _ _ _ _ (.frz (k := .int) (l := zer (n * 16).toNat) rfl rfl) (.cons _ _ _ _ (.int_eq rfl) .nil), .nil, rfl, rfl, rfl⟩

theorem rNew7_spec (n : Int) : Spec X 31 [] [.int n] (Ret [] (.tup [(newH n).tv, .int (newE n)])) := by
  refine spec_go X_ok Tryz.f31 (by kernel_rfl) (by kernel_rfl) (by kernel_rfl) fun hb hH => ⟨rfl, ?_⟩
  show ACall _ _ _ _ _ _
  refine call_ret (rNew2_spec n) rfl ?_
  cases hp : pgN n with
  | false =>
    have e1 : newE n = 1 := by unfold newE; rw [hp]; rfl
    have e2 : newH n = Hp.zero := by unfold newH; rw [hp]; rfl
    rw [e2, e1]
    show ABr _ _ _
    refine ⟨fun _ => ?_, fun h => absurd h (by decide)⟩
    show ARet _ _ _
    exact ⟨[], [], _, .cons _ _ _ _ (.agg _ _ (.cons _ _ _ _ (.nilsl .int) (.cons _ _ _ _ (.nilsl .page) (.cons _ _ _ _ (.nilsl .int) (.cons _ _ _ _ (.nilsl .int) (.cons _ _ _ _ (.nilsl .int) (.cons _ _ _ _ (.nilsl .bool) .nil))))))) (.cons _ _ _ _ .same .nil), .nil, rfl, rfl, rfl⟩
  | true =>
    have e1 : newE n = 0 := by unfold newE; rw [hp]; rfl
    have e2 : newH n = ⟨zer (n * 16).toNat, List.replicate n.toNat ⟨0, 0⟩, ⟨[], [], []⟩, List.replicate (2 * n).toNat false⟩ := by unfold newH; rw [hp]; rfl
    have e3 : newW n = zer (n * 16).toNat := by unfold newW; rw [hp]; rfl
    have hn := of_decide_eq_true hp
    have ew : IntKind.i64.wrap (2 * n) = 2 * n := wrap64 (by omega) (by omega)
    rw [e2, e1, e3]
    show ABr _ _ _
    refine ⟨fun h => absurd h (by decide), fun _ => ?_⟩
    show AOb ((0 : Int) ≤ n ∧ n ≤ n ∧ n ≤ (most : Int)) _
    refine ⟨by unfold most; omega, ?_⟩
    show AOb ((0 : Int) ≤ IntKind.i64.wrap (2 * n) ∧ IntKind.i64.wrap (2 * n) ≤ IntKind.i64.wrap (2 * n) ∧ IntKind.i64.wrap (2 * n) ≤ (most : Int)) _
    refine ⟨by rw [ew]; unfold most; omega, ?_⟩
    show ARet _ _ _
    exact ⟨[], [], _, .cons _ _ _ _ (.agg _ _ (.cons _ _ _ _ (.d _) (.cons _ _ _ _ (.frz_eq (k := .page) rfl rfl) (.cons _ _ _ _ (.nilsl .int) (.cons _ _ _ _ (.nilsl .int) (.cons _ _ _ _ (.nilsl .int) (.cons _ _ _ _ (.frz_eq (k := .bool) (l := List.replicate (IntKind.i64.wrap (2 * n)).toNat false) rfl (by rw [ew]; rfl)) .nil))))))) (.cons _ _ _ _ .same .nil), .nil, rfl, rfl, rfl⟩

theorem rSet7_spec (g : Hp) (a : Int) (x : Hd) (hl : g.light) (hs : g.small) (hw : ∀ x ∈ g.w, I64 x) : Spec X 28 [] [g.tv, .int a, x.tv] (Ret [] (.tup [(setH g a x).tv, .int (setE g a x)])) := by
  refine spec_go X_ok Tryz.f28 (by kernel_rfl) (by kernel_rfl) (by kernel_rfl) fun hb hH => ⟨rfl, ?_⟩
  show ACall _ _ _ _ _ _
  refine call_ret (rHead7_spec g a hl hw) rfl ?_
  show ABr (headE g a != 0) _ _
  refine ⟨fun h => ?_, fun h => ?_⟩
  · have h0 : headE g a ≠ 0 := by simpa using h
    have hE : setE g a x = headE g a := by unfold setE; rw [decide_eq_false h0]; rfl
    rw [setH_no hE h0, hE]
    show ARet _ _ _
    exact ⟨[], [], _, .cons _ _ _ _ (.agg _ _ (.cons _ _ _ _ (.nilsl .int) (.cons _ _ _ _ (.nilsl .page) (.cons _ _ _ _ (.nilsl .int) (.cons _ _ _ _ (.nilsl .int) (.cons _ _ _ _ (.nilsl .int) (.cons _ _ _ _ (.nilsl .bool) .nil))))))) (.cons _ _ _ _ .same .nil), .nil, rfl, rfl, rfl⟩
  · have h0 : headE g a = 0 := by simpa using h
    obtain ⟨hm, hr, hu⟩ := headE_of h0
    have hsh := mayH_shaped hm
    obtain ⟨_, _, hsl, _, _, h64⟩ := shapedH_of hsh
    obtain ⟨a1, a2⟩ := room_adr (h := g) (a := a) hr
    show ACall _ _ _ _ _ _
    refine call_ret (rhMay_spec x) rfl ?_
    have hiff : (bif (bif !decide x.May then true else !x.used) then true else x.n != (headH g a).n) = !decide (x.May ∧ x.used = true ∧ x.n = (headH g a).n) := by
      by_cases c1 : x.May
      · cases c2 : x.used with
        | false => simp [c1, c2]
        | true =>
          by_cases c3 : x.n = (headH g a).n <;> simp [c1, c2, c3]
      · simp [c1]
    show ABr (bif (bif !decide x.May then true else !x.used) then true else x.n != (headH g a).n) _ _
    rw [hiff]
    refine ⟨fun h => ?_, fun h => ?_⟩
    · have hc : decide (x.May ∧ x.used = true ∧ x.n = (headH g a).n) = false := by
        cases hd : decide (x.May ∧ x.used = true ∧ x.n = (headH g a).n) with
        | false => rfl
        | true => rw [hd] at h; exact absurd h (by decide)
      have hE : setE g a x = 1 := by unfold setE; rw [h0, hc]; rfl
      rw [setH_no hE (by decide), hE]
      show ARet _ _ _
      exact ⟨[], [], _, .cons _ _ _ _ (.agg _ _ (.cons _ _ _ _ (.nilsl .int) (.cons _ _ _ _ (.nilsl .page) (.cons _ _ _ _ (.nilsl .int) (.cons _ _ _ _ (.nilsl .int) (.cons _ _ _ _ (.nilsl .int) (.cons _ _ _ _ (.nilsl .bool) .nil))))))) (.cons _ _ _ _ .same .nil), .nil, rfl, rfl, rfl⟩
    · have hc : decide (x.May ∧ x.used = true ∧ x.n = (headH g a).n) = true := by
        cases hd : decide (x.May ∧ x.used = true ∧ x.n = (headH g a).n) with
        | true => rfl
        | false => rw [hd] at h; exact absurd h (by decide)
      have hE : setE g a x = 0 := by unfold setE; rw [h0, hc]; rfl
      obtain ⟨hM, hU, _⟩ := of_decide_eq_true hc
      have ew : IntKind.i64.wrap (a - 16) = a - 16 := wrap64 (by omega) (by omega)
      rw [setH_yes hE, hE]
      show ACall _ _ _ _ _ _
      refine .mk _ (rOwn7_spec g hs) fun H r hq _ _ => ?_
      obtain ⟨rfl, rfl⟩ := hq
      refine ⟨.inl rfl, ?_⟩
      show ADCall _ _ _ _ _ _
      refine .mk _ _ (rWord_spec x hM hU) rfl ?_
      show AOb ((0 : Int) ≤ IntKind.i64.wrap (a - 16) ∧ IntKind.i64.wrap (a - 16) < (g.w.length : Int)) _
      rw [ew]
      refine ⟨by omega, ?_⟩
      show AOb ((a - 16).toNat < g.w.length) _
      refine ⟨by omega, ?_⟩
      show ARet _ _ _
      exact ⟨[], [], [(putH g a x.word).tv, .int 0], .cons _ _ _ _ (.agg _ _ (.cons _ _ _ _ (.frz_eq (k := .int) (l := g.w.set (a - 16).toNat x.word) rfl rfl) (.cons _ _ _ _ (.frz_eq (k := .page) (l := g.pages) rfl rfl) (.cons _ _ _ _ (.d _) (.cons _ _ _ _ (.d _) (.cons _ _ _ _ (.d _) (.cons _ _ _ _ (.frz_eq (k := .bool) (l := g.cards) rfl rfl) .nil))))))) (.cons _ _ _ _ .same .nil), .nil, rfl, rfl, rfl⟩

theorem HeapSets_spec (g : Hp) (hw : ∀ x ∈ g.w, I64 x) (a : Int) (x : Hd) (n : Int) : Spec X 4 [] [g.tv, .int a, x.tv, .int n] (Ret [] (.bo true)) := by
  refine spec_go X_ok Tryz.f4 (by kernel_rfl) (by kernel_rfl) (by kernel_rfl) fun hb hH => ⟨rfl, ?_⟩
  show ACall _ _ _ _ _ _
  refine call_ret (awake7_spec) rfl ?_
  show ACall _ _ _ _ _ _
  refine call_ret (Few_spec g) rfl ?_
  cases hf : fewH g with
  | false =>
    show ABr _ _ _
    refine ⟨fun _ => ?_, fun h => absurd h (by decide)⟩
    show ARet _ _ _
    exact ret_d rfl ⟨rfl, rfl⟩
  | true =>
    show ABr _ _ _
    refine ⟨fun h => absurd h (by decide), fun _ => ?_⟩
    have hl := few_light hf
    have hs := few_small hf
    show ACall _ _ _ _ _ _
    refine .mk _ (rOwn7_spec g hs) fun H r hq _ _ => ?_
    obtain ⟨rfl, rfl⟩ := hq
    refine ⟨.inl rfl, ?_⟩
    show ACall _ _ _ _ _ _
    refine call_ret (hSet_spec g a x hl) rfl ?_
    show ACall _ _ _ _ _ _
    refine call_ret (rSet7_spec g a x hl hs hw) rfl ?_
    show ACall _ _ _ _ _ _
    refine call_ret (hSame_spec (setH g a x) (setH g a x)) rfl ?_
    rw [decide_eq_true rfl]
    show ACall _ _ _ _ _ _
    refine .mk' (args' := [g.tv, g.tv]) ?_ (hSame_spec g g) rfl ?_
    · rfl
    rw [decide_eq_true rfl]
    show ACall _ _ _ _ _ _
    refine call_ret (hNew_spec n) rfl ?_
    show ACall _ _ _ _ _ _
    refine call_ret (rNew7_spec n) rfl ?_
    show ACall _ _ _ _ _ _
    refine call_ret (hSame_spec (newH n) (newH n)) rfl ?_
    rw [decide_eq_true rfl]
    show ARet _ _ _
    refine ret_bo (x := bif (bif (bif (bif true then true else false) then setE g a x == setE g a x else false) then true else false) then newE n == newE n else false) ?_ ⟨rfl, rfl⟩
    simp
end Go.Abs
