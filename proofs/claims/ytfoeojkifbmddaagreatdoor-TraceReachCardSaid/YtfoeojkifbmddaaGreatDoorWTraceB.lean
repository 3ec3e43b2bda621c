/- Walks: what black ones lead to; where nothing else is done the phase ends. -/
import Derived.Test.YtfoeojkifbmddaaGreatDoorWTraceA
set_option linter.all false
set_option linter.unusedVariables false
set_option linter.unusedSimpArgs false
namespace Go.Abs
open Go.Proofs Go.Proofs.YtfoeojkifbmddaaGreatDoor
set_option maxRecDepth 8000

def ledV (g : Hp) (c : Col) (u : Int) (f : Nat) : Bool := !decide (atK g c (wordAt g (u + ((f + 1 : Nat) : Int))) = 1)
def ledU (g : Hp) (c : Col) (u : Int) : Bool := !decide (atK g c u = 3) || (List.range (headH g u).n.toNat).all (ledV g c u)
def ledB (g : Hp) (c : Col) : Bool := (usedH g).all (ledU g c)

theorem led_iff {g : Hp} {c : Col} : ledB g c = true ↔ ledQ (fun _ => True) g c := by
  unfold ledB ledQ
  rw [List.all_eq_true]
  constructor
  · intro h u _ hu f h1 h2
    have h0 := h u (mem_usedH.2 (atK_ne (c := c) (by omega)))
    unfold ledU at h0
    rw [decide_eq_true hu, Bool.not_true, Bool.false_or, List.all_eq_true] at h0
    have h3 := h0 (f - 1).toNat (List.mem_range.2 (by omega))
    unfold ledV at h3
    rw [show u + (((f - 1).toNat + 1 : Nat) : Int) = u + f by omega] at h3
    simpa using h3
  · intro h u hu
    unfold ledU
    by_cases h3 : atK g c u = 3
    · rw [decide_eq_true h3, Bool.not_true, Bool.false_or, List.all_eq_true]
      intro f hf
      have := List.mem_range.1 hf
      have h4 := h u trivial h3 ((f + 1 : Nat) : Int) (by omega) (by omega)
      unfold ledV
      rw [decide_eq_false h4]
      rfl
    · rw [decide_eq_false h3]; rfl

theorem range_all_succ (n : Nat) (p : Nat → Bool) : (List.range (n + 1)).all p = ((List.range n).all p && p n) := by
  rw [List.range_succ, List.all_append]
  simp

/-- A field of an object, as the statements read it. -/
theorem field_get {g : Hp} {u : Int} {f : Nat} (h0 : headE g u = 0) (hf : ((f + 1 : Nat) : Int) ≤ (headH g u).n) :
    IntKind.i64.wrap (IntKind.i64.wrap (u + ((f + 1 : Nat) : Int)) - 16) = u + ((f + 1 : Nat) : Int) - 16 ∧ 0 ≤ u + ((f + 1 : Nat) : Int) - 16 ∧ u + ((f + 1 : Nat) : Int) - 16 < (g.w.length : Int) := by
  obtain ⟨hm, _, _⟩ := headE_of h0
  obtain ⟨hmw, _, hlen, _, _, h64⟩ := shapedH_of (mayH_shaped hm)
  obtain ⟨⟨a1, a2⟩, _⟩ := field_adr (f := ((f + 1 : Nat) : Int)) h0 (by omega) hf
  have w1 : IntKind.i64.wrap (u + ((f + 1 : Nat) : Int)) = u + ((f + 1 : Nat) : Int) := wrap64 (by omega) (by omega)
  have w2 : IntKind.i64.wrap (u + ((f + 1 : Nat) : Int) - 16) = u + ((f + 1 : Nat) : Int) - 16 := wrap64 (by omega) (by omega)
  rw [w1, w2]
  exact ⟨rfl, by omega, by omega⟩

set_option maxHeartbeats 2000000 in
theorem tLed_spec (g : Hp) (c : Col) (hl : g.light) (hw : ∀ x ∈ g.w, I64 x) : Spec X 14 [] [g.tv, c.tv] (Ret [] (.int (bif ledB g c then 0 else 1))) := by
  refine spec_go X_ok Tryz.f14 (by kernel_rfl) (by kernel_rfl) (by kernel_rfl) fun hb hH => ⟨rfl, ?_⟩
  show ACall _ _ _ _ _ _
  refine .mk _ (rUsed7_spec g hl hw) fun H r ⟨eH, er⟩ _ _ => ⟨.inl rfl, ?_⟩
  subst eH er
  obtain ⟨U, hU⟩ : ∃ U, U = usedH g := ⟨_, rfl⟩
  rw [← hU]
  have hUl : U.length ≤ 512 := by rw [hU]; exact used_len g
  show ∃ n, _
  refine ⟨0, ALoop.inv (ι := {i : Nat // i ≤ U.length ∧ (U.take i).all (ledU g c) = true}) (fun q => ⟨[(2, .c (.d (.rp (g.enc)))), (3, .c (.d (.rp (c.enc)))), (5, .c (.d (.sl .int (U)))), (6, .int (q.1))], [], 32⟩) (fun q => U.length - q.1) ⟨0, Nat.zero_le _, rfl⟩ ?_ ?_⟩
  · exact ⟨[], (by repeat' first | exact .nil | refine .cons _ _ _ ?_ ?_ | exact .same | exact .c _ _ (.own _ _ rfl) | exact .c _ _ (.ptr _ _ _ _ rfl) | exact .c _ _ (.frz _ _ rfl) | exact .any _), (by exact .nil), (by rfl)⟩
  · rintro ⟨i, hi, hv⟩
    show ABr (decide ((i : Int) < (U.length : Int))) _ _
    refine ⟨fun h => ?_, fun h => ?_⟩
    · have hlt : i < U.length := by simpa using h
      have wi : IntKind.i64.wrap ((i : Int) + 1) = ((i + 1 : Nat) : Int) := wrapP (i := i) (by unfold maxN; omega)
      have hmem : U.getD i default ∈ U := by
        rw [List.getD_eq_getElem?_getD, List.getElem?_eq_getElem hlt]
        exact List.getElem_mem hlt
      have h0 : headE g (U.getD i default) = 0 := mem_usedH.1 (hU ▸ hmem)
      have hstep : (U.take (i + 1)).all (ledU g c) = ledU g c (U.getD i default) := by
        rw [take_at0 hlt, List.all_append, hv]
        simp [at0]
      show AOb ((0 : Int) ≤ (i : Int) ∧ (i : Int) < (U.length : Int)) _
      refine ⟨by omega, ?_⟩
      show ADCall _ _ _ _ _ _
      refine .mk _ _ (rColour_spec g c (U.getD i default) hl hw) rfl ?_
      show ABr (!decide (atK g c (U.getD i default) = 3)) _ _
      refine ⟨fun h => ?_, fun h => ?_⟩
      · have h3 : ledU g c (U.getD i default) = true := by unfold ledU; rw [h]; rfl
        show ARound _ _ _ _
        exact ⟨⟨i + 1, hlt, hstep.trans h3⟩, (by dsimp only; omega), [], (by repeat' first | exact .nil | refine .cons _ _ _ ?_ ?_ | exact .int_eq wi | exact .same | exact .c _ _ (.own _ _ rfl) | exact .c _ _ (.ptr _ _ _ _ rfl) | exact .c _ _ (.frz _ _ rfl) | exact .any _), (by exact .nil), (by rfl)⟩
      · have h3 : atK g c (U.getD i default) = 3 := by simpa using h
        show AOb ((0 : Int) ≤ (i : Int) ∧ (i : Int) < (U.length : Int)) _
        refine ⟨by omega, ?_⟩
        show ADCall _ _ _ _ _ _
        refine .mk _ _ (rHead7_spec g (U.getD i default) hl hw) rfl ?_
        have hfit := head_fits h0
        have hn63 : (headH g (U.getD i default)).n ≤ 63 := by
          obtain ⟨hm, hu⟩ := head_may h0
          unfold Hd.May at hm
          rw [if_pos hu] at hm
          exact hm.1.2
        have e11 : (1 : Int) = ((0 + 1 : Nat) : Int) := rfl
        show ∃ n, _
        refine ⟨0, ALoop.inv (ι := {f : Nat // (f : Int) ≤ (headH g (U.getD i default)).n ∧ (List.range f).all (ledV g c (U.getD i default)) = true}) (fun q => ⟨[(2, .c (.d (.rp (g.enc)))), (3, .c (.d (.rp (c.enc)))), (5, .c (.d (.sl .int (U)))), (6, .int (i)), (7, .c (.d (.rp ((headH g (U.getD i default)).enc)))), (9, .int (((q.1 + 1 : Nat) : Int)))], [], 32⟩) (fun q => (headH g (U.getD i default)).n.toNat - q.1) ⟨0, by show (0 : Int) ≤ _; omega, rfl⟩ ?_ ?_⟩
        · exact ⟨[], (by repeat' first | exact .nil | refine .cons _ _ _ ?_ ?_ | exact .int_eq e11 | exact .same | exact .c _ _ (.own _ _ rfl) | exact .c _ _ (.ptr _ _ _ _ rfl) | exact .c _ _ (.frz _ _ rfl) | exact .any _), (by exact .nil), (by rfl)⟩
        rintro ⟨f, hf, hfv⟩
        have wf : IntKind.i64.wrap (((f + 1 : Nat) : Int) + 1) = ((f + 1 + 1 : Nat) : Int) := wrapP (i := f + 1) (by have : (f : Int) ≤ _ := hf; unfold maxN; omega)
        show ABr (decide (((f + 1 : Nat) : Int) ≤ (headH g (U.getD i default)).n)) _ _
        refine ⟨fun h => ?_, fun h => ?_⟩
        · have hfl := of_decide_eq_true h
          obtain ⟨z1, z2, z3⟩ := field_get h0 hfl
          have hval : g.w.getD (IntKind.i64.wrap (IntKind.i64.wrap (U.getD i default + ((f + 1 : Nat) : Int)) - 16)).toNat default = wordAt g (U.getD i default + ((f + 1 : Nat) : Int)) := by
            rw [z1]; rfl
          have hst : (List.range (f + 1)).all (ledV g c (U.getD i default)) = !decide (atK g c (g.w.getD (IntKind.i64.wrap (IntKind.i64.wrap (U.getD i default + ((f + 1 : Nat) : Int)) - 16)).toNat default) = 1) := by
            rw [range_all_succ, hfv, Bool.true_and, hval]
            rfl
          show AOb ((0 : Int) ≤ (i : Int) ∧ (i : Int) < (U.length : Int)) _
          refine ⟨by omega, ?_⟩
          show AOb ((0 : Int) ≤ IntKind.i64.wrap (IntKind.i64.wrap (U.getD i default + ((f + 1 : Nat) : Int)) - 16) ∧ IntKind.i64.wrap (IntKind.i64.wrap (U.getD i default + ((f + 1 : Nat) : Int)) - 16) < (g.w.length : Int)) _
          refine ⟨by rw [z1]; omega, ?_⟩
          show ADCall _ _ _ _ _ _
          refine .mk _ _ (rColour_spec g c (g.w.getD (IntKind.i64.wrap (IntKind.i64.wrap (U.getD i default + ((f + 1 : Nat) : Int)) - 16)).toNat default) hl hw) rfl ?_
          show ABr (decide (atK g c (g.w.getD (IntKind.i64.wrap (IntKind.i64.wrap (U.getD i default + ((f + 1 : Nat) : Int)) - 16)).toNat default) = 1)) _ _
          refine ⟨fun h => ?_, fun h => ?_⟩
          · show ARet _ _ _
            refine ret_int (x := 1) ?_ ⟨rfl, rfl⟩
            cases hz : ledB g c with
            | false => rfl
            | true =>
              have h4 := led_iff.1 hz (U.getD i default) trivial h3 ((f + 1 : Nat) : Int) (by omega) hfl
              rw [hval] at h
              exact absurd (of_decide_eq_true h) h4
          · rw [h] at hst
            show ARound _ _ _ _
            exact ⟨⟨f + 1, by have := hfl; omega, hst⟩, (by dsimp only; omega), [], (by repeat' first | exact .nil | refine .cons _ _ _ ?_ ?_ | exact .int_eq wf | exact .same | exact .c _ _ (.own _ _ rfl) | exact .c _ _ (.ptr _ _ _ _ rfl) | exact .c _ _ (.frz _ _ rfl) | exact .any _), (by exact .nil), (by rfl)⟩
        · have hfl := of_decide_eq_false h
          have hfe : f = (headH g (U.getD i default)).n.toNat := by have : (f : Int) ≤ _ := hf; omega
          have h4 : ledU g c (U.getD i default) = true := by
            unfold ledU
            rw [← hfe, hfv, Bool.or_true]
          show ARound _ _ _ _
          exact ⟨⟨i + 1, hlt, hstep.trans h4⟩, (by dsimp only; omega), [], (by repeat' first | exact .nil | refine .cons _ _ _ ?_ ?_ | exact .int_eq wi | exact .same | exact .c _ _ (.own _ _ rfl) | exact .c _ _ (.ptr _ _ _ _ rfl) | exact .c _ _ (.frz _ _ rfl) | exact .any _), (by exact .nil), (by rfl)⟩
    · have hge : i = U.length := by simp at h; omega
      have hv : (U.take i).all (ledU g c) = true := hv
      rw [hge, List.take_length, hU] at hv
      show ARet _ _ _
      refine ret_int (x := 0) ?_ ⟨rfl, rfl⟩
      rw [show ledB g c = true from hv]
      rfl
end Go.Abs

namespace Go.Abs
open Go.Proofs Go.Proofs.YtfoeojkifbmddaaGreatDoor
set_option maxRecDepth 8000

theorem steps16 {n : Nat} (h : n ≤ 130) : IntKind.i64.wrap (tdv (IntKind.i64.wrap ((n : Int) * (n : Int))) 4 + 40) = (n : Int) * (n : Int) / 4 + 40 := by
  have hb : (n : Int) * (n : Int) ≤ 130 * 130 := Int.mul_le_mul (by omega) (by omega) (by omega) (by omega)
  have h0 : 0 ≤ (n : Int) * (n : Int) := Int.mul_nonneg (by omega) (by omega)
  generalize (n : Int) * (n : Int) = m at *
  have e1 : IntKind.i64.wrap m = m := wrap64 (by omega) (by omega)
  rw [e1, tdv_eq h0 (by decide) (by omega)]
  exact wrap64 (by omega) (by omega)

theorem trN_w64 {g : Hp} (hw : ∀ x ∈ g.w, I64 x) (c : Col) (n : Nat) : ∀ x ∈ (trN g c n).1.w, I64 x := by
  induction n with
  | zero => exact hw
  | succ n ih => exact (trN_step g c n).w64 ih

set_option maxHeartbeats 2000000 in
theorem TraceEnds_spec (g : Hp) (hw : ∀ x ∈ g.w, I64 x) (c : Col) : Spec X 4 [] [g.tv, c.tv] (Ret [] (.bo true)) := by
  refine spec_go X_ok Tryz.f4 (by kernel_rfl) (by kernel_rfl) (by kernel_rfl) fun hb hH => ⟨rfl, ?_⟩
  show ACall _ _ _ _ _ _
  refine call_ret (awake16_spec) rfl ?_
  show ACall _ _ _ _ _ _
  refine call_ret (few16_spec g c) rfl ?_
  cases hf : few11 g c with
  | false =>
    show AIf _ _ _
    refine ⟨fun h => absurd h.1 (by simp), fun _ => ?_⟩
    show AOb _ _
    refine ⟨by simp, ?_⟩
    show AIf _ _ _
    refine ⟨fun h => absurd h.1 (by decide), fun _ => ?_⟩
    show AOb _ _
    refine ⟨by decide, ?_⟩
    show AIf _ _ _
    refine ⟨fun h => absurd h.1 (by decide), fun _ => ?_⟩
    show AOb _ _
    refine ⟨by decide, ?_⟩
    show ABr _ _ _
    refine ⟨fun _ => ?_, fun h => absurd h (by simp)⟩
    show ARet _ _ _
    exact ret_d rfl ⟨rfl, rfl⟩
  | true =>
    obtain ⟨f1, f2, f3, f4, f5⟩ := few16_of hf
    have f6 : c.work.length ≤ maxN := by unfold maxN; omega
    show AIf ((bif (bif !true then true else !true) then true else !decide (c.phase = 5)) = false ∧ True) _ _
    by_cases hp : c.phase = 5
    · rw [decide_eq_true hp]
      show AIf _ _ _
      refine ⟨fun _ => ?_, fun h => absurd ⟨(by rfl), trivial⟩ h⟩
      show ACall _ _ _ _ _ _
      refine call_ret (hHMay0_spec g f2) rfl ?_
      cases hm : mayH g [] with
      | false =>
        show AIf _ _ _
        refine ⟨fun h => absurd h.1 (by decide), fun _ => ?_⟩
        show AOb _ _
        refine ⟨by decide, ?_⟩
        show AIf _ _ _
        refine ⟨fun h => absurd h.1 (by decide), fun _ => ?_⟩
        show AOb _ _
        refine ⟨by decide, ?_⟩
        show ABr _ _ _
        refine ⟨fun _ => ?_, fun h => absurd h (by simp)⟩
        show ARet _ _ _
        exact ret_d rfl ⟨rfl, rfl⟩
      | true =>
        show AIf _ _ _
        refine ⟨fun _ => ?_, fun h => absurd ⟨(by rfl), trivial⟩ h⟩
        show ACall _ _ _ _ _ _
        refine call_ret (tKnown_spec g c f2 hw f6) rfl ?_
        cases hk : knownB g c with
        | false =>
          show AIf _ _ _
          refine ⟨fun h => absurd h.1 (by decide), fun _ => ?_⟩
          show AOb _ _
          refine ⟨by decide, ?_⟩
          show ABr _ _ _
          refine ⟨fun _ => ?_, fun h => absurd h (by simp)⟩
          show ARet _ _ _
          exact ret_d rfl ⟨rfl, rfl⟩
        | true =>
          show AIf _ _ _
          refine ⟨fun _ => ?_, fun h => absurd ⟨(by rfl), trivial⟩ h⟩
          show ACall _ _ _ _ _ _
          refine call_ret (tLed_spec g c f2 hw) rfl ?_
          cases hled : ledB g c with
          | false =>
            show ABr _ _ _
            refine ⟨fun _ => ?_, fun h => absurd h (by simp)⟩
            show ARet _ _ _
            exact ret_d rfl ⟨rfl, rfl⟩
          | true =>
            show ABr (bif (bif (bif (bif false then true else decide ((c.work.length : Int) > 4)) then true else !decide (c.at_ = 0)) then true else !decide (c.field_ = 0)) then true else !decide (c.seek = 0)) _ _
            refine ⟨fun h => ?_, fun h => ?_⟩
            · show ARet _ _ _
              exact ret_d rfl ⟨rfl, rfl⟩
            · have hc : c.work.length ≤ 4 ∧ c.at_ = 0 ∧ c.seek = 0 := by simp at h; omega
              obtain ⟨c1, c2, c3⟩ := hc
              have hwl : g.w.length ≤ 130 := by have := of_decide_eq_true f1; omega
              have hN := steps16 hwl
              obtain ⟨N, eN⟩ : ∃ N : Nat, (N : Int) = (g.w.length : Int) * (g.w.length : Int) / 4 + 40 := ⟨((g.w.length : Int) * (g.w.length : Int) / 4 + 40).toNat, by
                have : 0 ≤ (g.w.length : Int) * (g.w.length : Int) := Int.mul_nonneg (by omega) (by omega)
                omega⟩
              rw [← eN] at hN
              have r0 := Run.start hp hk c2 f4 (led_iff.1 hled)
              show AOb _ _
              refine ⟨by decide, ?_⟩
              show ∃ n, _
              refine ⟨0, ALoop.inv (ι := {i : Nat // i ≤ N ∧ Run (fun _ => True) g c i (trN g c i).1 (trN g c i).2}) (fun q => ⟨[(2, .c (.ptr 0 0 0)), (3, .c (.ptr 1 0 0)), (7, .int ((N : Int))), (8, .int (q.1))], [(0, .vars ((trN g c q.1).1.enc.map .d)), (1, .vars ((trN g c q.1).2.enc.map .d))], 96⟩) (fun q => N - q.1) ⟨0, Nat.zero_le _, r0⟩ ?_ ?_⟩
              · exact ⟨[(32, 0), (64, 1)], (by repeat' first | exact .nil | refine .cons _ _ _ ?_ ?_ | exact .int_eq hN | exact .same | exact .c _ _ (.own _ _ rfl) | exact .c _ _ (.ptr _ _ _ _ rfl) | exact .c _ _ (.frz _ _ rfl) | exact .any _), (by exact .old 0 32 _ _ _ rfl rfl (.vars _ _ (LeL_refl rfl)) (.old 1 64 _ _ _ rfl rfl (.vars _ _ (LeL_refl rfl)) .nil)), (by rfl)⟩
              rintro ⟨i, hi, hr⟩
              have hi : i ≤ N := hi
              have hr : Run (fun _ => True) g c i (trN g c i).1 (trN g c i).2 := hr
              have kl := hr.marks.light f2
              have kw : ∀ x ∈ (trN g c i).1.w, I64 x := trN_w64 hw c i
              show ABr (bif decide ((i : Int) < (N : Int)) then decide ((trN g c i).2.phase = 5) else false) _ _
              refine ⟨fun h => ?_, fun h => ?_⟩
              · have hlt : i < N := by
                  by_cases h1 : (i : Int) < (N : Int)
                  · omega
                  · rw [decide_eq_false h1] at h; exact absurd h (by simp)
                have hp5 : (trN g c i).2.phase = 5 := by
                  rw [decide_eq_true (show (i : Int) < (N : Int) by omega)] at h
                  exact of_decide_eq_true h
                have wi : IntKind.i64.wrap ((i : Int) + 1) = ((i + 1 : Nat) : Int) := wrapP (i := i) (by
                  have hb : (g.w.length : Int) * (g.w.length : Int) ≤ 130 * 130 := Int.mul_le_mul (by omega) (by omega) (by omega) (by omega)
                  unfold maxN; omega)
                show ACall _ _ _ _ _ _
                refine call_ret (tStep_spec (trN g c i).1 (trN g c i).2 kl (hr.marks.small f3) (work16 hr.w100)) rfl ?_
                show ARound _ _ _ _
                exact ⟨⟨i + 1, hlt, hr.step hm hp5⟩, (by dsimp only; omega), [(0, 0), (1, 1)], (by repeat' first | exact .nil | refine .cons _ _ _ ?_ ?_ | exact .int_eq wi | exact .same | exact .c _ _ (.own _ _ rfl) | exact .c _ _ (.ptr _ _ _ _ rfl) | exact .c _ _ (.frz _ _ rfl) | exact .any _), (by exact .old 0 0 _ _ _ rfl rfl (.vars _ _ (LeL_refl rfl)) (.old 1 1 _ _ _ rfl rfl (.vars _ _ (LeL_refl rfl)) .nil)), (by rfl)⟩
              · have h6 : (trN g c i).2.phase = 6 := by
                  by_cases h1 : (i : Int) < (N : Int)
                  · rw [decide_eq_true h1] at h
                    have : (trN g c i).2.phase ≠ 5 := of_decide_eq_false h
                    rcases hr.phase with e | e
                    · exact absurd e this
                    · exact e
                  · exact hr.ends hm c2 c3 c1 (by omega)
                have hov := hr.over h6
                show AIf (decide ((trN g c i).2.phase = 6) = true ∧ True) _ _
                refine ⟨fun _ => ?_, fun h => absurd ⟨decide_eq_true h6, trivial⟩ h⟩
                show ACall _ _ _ _ _ _
                refine call_ret (tLed_spec (trN g c i).1 (trN g c i).2 kl kw) rfl ?_
                rw [led_iff.2 hr.led]
                show AIf _ _ _
                refine ⟨fun _ => ?_, fun h => absurd ⟨(by rfl), trivial⟩ h⟩
                show ACall _ _ _ _ _ _
                refine call_ret (tOver_spec (trN g c i).1 (trN g c i).2 kl) rfl ?_
                rw [decide_eq_true hov]
                show AIf _ _ _
                refine ⟨fun _ => ?_, fun h => absurd ⟨(by rfl), trivial⟩ h⟩
                show ACall _ _ _ _ _ _
                refine call_ret (hHMay0_spec (trN g c i).1 kl) rfl ?_
                rw [show mayH (trN g c i).1 [] = true by rw [hr.marks.may]; exact hm]
                show ARet _ _ _
                exact ret_d rfl ⟨rfl, rfl⟩
    · rw [decide_eq_false hp]
      show AIf _ _ _
      refine ⟨fun h => absurd h.1 (by simp [hp]), fun _ => ?_⟩
      show AOb _ _
      refine ⟨by simp [hp], ?_⟩
      show AIf _ _ _
      refine ⟨fun h => absurd h.1 (by decide), fun _ => ?_⟩
      show AOb _ _
      refine ⟨by decide, ?_⟩
      show AIf _ _ _
      refine ⟨fun h => absurd h.1 (by decide), fun _ => ?_⟩
      show AOb _ _
      refine ⟨by decide, ?_⟩
      show ABr _ _ _
      refine ⟨fun _ => ?_, fun h => absurd h (by simp)⟩
      show ARet _ _ _
      exact ret_d rfl ⟨rfl, rfl⟩
end Go.Abs
