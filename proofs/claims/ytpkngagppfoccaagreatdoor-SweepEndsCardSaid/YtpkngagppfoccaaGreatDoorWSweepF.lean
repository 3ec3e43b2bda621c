/- Walks: a sweep ends; what is left is what was to be left. -/
import Derived.Test.YtpkngagppfoccaaGreatDoorWSweepE
import Derived.Test.YtpkngagppfoccaaGreatDoorWRef07
set_option linter.all false
set_option linter.unusedVariables false
set_option linter.unusedSimpArgs false
namespace Go.Abs
open Go.Proofs Go.Proofs.YtpkngagppfoccaaGreatDoor
set_option maxRecDepth 8000

theorem rFate18_spec (g : Hp) (c : Col) (a : Int) (hl : g.light) (hw : ∀ x ∈ g.w, I64 x) : Spec X 17 [] [g.tv, c.tv, .int a] (Ret [] (.int (fateH g c a))) := by
  refine spec_go X_ok Tryz.f17 (by kernel_rfl) (by kernel_rfl) (by kernel_rfl) fun hb hH => ⟨rfl, ?_⟩
  show ACall _ _ _ _ _ _
  refine call_ret (rHead7_spec g a hl hw) rfl ?_
  unfold fateH
  show ABr (bif headE g a != 0 then true else (bif (headH g a).old then !c.major else false)) _ _
  by_cases h1 : headE g a ≠ 0 ∨ ((headH g a).old = true ∧ c.major = false)
  · rw [if_pos h1]
    have e : (bif headE g a != 0 then true else (bif (headH g a).old then !c.major else false)) = true := by
      rcases h1 with k | ⟨k1, k2⟩
      · rw [show (headE g a != 0) = true by simpa using k]; rfl
      · rw [k1, k2]; cases (headE g a != 0) <;> rfl
    rw [e]
    show ABr _ _ _
    refine ⟨fun _ => ?_, fun h => absurd h (by decide)⟩
    show ARet _ _ _
    exact ret_d rfl ⟨rfl, rfl⟩
  · rw [if_neg h1]
    have e : (bif headE g a != 0 then true else (bif (headH g a).old then !c.major else false)) = false := by
      rw [show (headE g a != 0) = false by simpa using fun k => h1 (.inl k)]
      cases ho : (headH g a).old <;> cases hm : c.major <;> first | rfl | exact absurd (.inr ⟨ho, hm⟩) h1
    rw [e]
    show ABr _ _ _
    refine ⟨fun h => absurd h (by decide), fun _ => ?_⟩
    show ABr (decide ((headH g a).mark < c.epoch)) _ _
    by_cases h2 : (headH g a).mark < c.epoch
    · rw [if_pos h2, decide_eq_true h2]
      show ABr _ _ _
      refine ⟨fun _ => ?_, fun h => absurd h (by decide)⟩
      show ARet _ _ _
      exact ret_d rfl ⟨rfl, rfl⟩
    · rw [if_neg h2, decide_eq_false h2]
      show ABr _ _ _
      refine ⟨fun h => absurd h (by decide), fun _ => ?_⟩
      show ABr (bif !(headH g a).old then decide ((headH g a).born < c.epoch) else false) _ _
      by_cases h3 : (headH g a).old = false ∧ (headH g a).born < c.epoch
      · rw [if_pos h3, h3.1, decide_eq_true h3.2]
        show ABr _ _ _
        refine ⟨fun _ => ?_, fun h => absurd h (by decide)⟩
        show ARet _ _ _
        exact ret_d rfl ⟨rfl, rfl⟩
      · rw [if_neg h3, show (bif !(headH g a).old then decide ((headH g a).born < c.epoch) else false) = false by cases ho : (headH g a).old <;> first | rfl | exact decide_eq_false fun k => h3 ⟨ho, k⟩]
        show ABr _ _ _
        refine ⟨fun h => absurd h (by decide), fun _ => ?_⟩
        show ARet _ _ _
        exact ret_d rfl ⟨rfl, rfl⟩

theorem swN_w (g : Hp) (c : Col) (hl : g.light) (hs : g.small) (h : c.work.length ≤ 100) (n : Nat) : (swN g c n).1.light := (swN_ok g c hl hs h n).1

/-- So many of the first ones stay. -/
def leftN (g : Hp) (c : Col) (j : Nat) : Nat := (((usedH g).take j).filter fun u => decide (fateH g c u ≠ 1)).length
theorem leftN_le (g : Hp) (c : Col) (j : Nat) : leftN g c j ≤ j := Nat.le_trans (List.length_filter_le _ _) (by rw [List.length_take]; omega)
theorem leftN_step (g : Hp) (c : Col) {j : Nat} (h : j < (usedH g).length) : leftN g c (j + 1) = leftN g c j + (if fateH g c (at0 (usedH g) j) = 1 then 0 else 1) := by
  unfold leftN
  rw [List.take_succ_eq_append_getElem h, List.filter_append, List.length_append, at0_get h]
  congr 1
  by_cases k : fateH g c (usedH g)[j] = 1
  · simp [k]
  · simp [k]
theorem leftN_all {g k : Hp} {c : Col} (hf : Flds g k) (h : ∀ u, headE g u = 0 → Fin g c k u) : leftN g c (usedH g).length = (usedH k).length := by
  unfold leftN
  rw [List.take_length]
  have e : (usedH k).Perm ((usedH g).filter fun u => decide (fateH g c u ≠ 1)) := by
    have nd : ∀ x : Hp, (usedH x).Nodup := fun x => (usedH_sorted x).imp (fun h => by omega)
    rw [List.perm_ext_iff_of_nodup (nd k) ((nd g).sublist List.filter_sublist)]
    intro u
    rw [List.mem_filter, mem_usedH, mem_usedH, decide_eq_true_eq]
    constructor
    · intro hk
      have hg := hf.conv u hk
      rcases h u hg with ⟨_, q⟩ | ⟨q, _⟩
      · exact absurd hk q
      · exact ⟨hg, q⟩
    · rintro ⟨hg, hne⟩
      rcases h u hg with ⟨q, _⟩ | ⟨_, q, _⟩
      · exact absurd q hne
      · exact q
  exact e.length_eq.symm

set_option maxHeartbeats 8000000 in
theorem SweepEnds_spec (g : Hp) (hw : ∀ x ∈ g.w, I64 x) (c : Col) (cs : List Lists) : Spec X 7 [] [g.tv, c.tv, .c (.d (.sl .lists cs))] (Ret [] (.bo true)) := by
  refine spec_go X_ok Tryz.f7 (by kernel_rfl) (by kernel_rfl) (by kernel_rfl) fun hb hH => ⟨rfl, ?_⟩
  show ACall _ _ _ _ _ _
  refine call_ret (awake18_spec) rfl ?_
  show ACall _ _ _ _ _ _
  refine call_ret (few18_spec g c) rfl ?_
  show ABr (bif bif bif (bif (bif !true then true else !few11 g c) then true else decide ((cs.length : Int) > 4)) then true else c.phase != 6 then true else c.seek != 0 then true else c.met) _ _
  refine ⟨fun h => ?_, fun h => ?_⟩
  · show ARet _ _ _
    exact ret_d rfl ⟨rfl, rfl⟩
  have hc : few11 g c = true ∧ cs.length ≤ 4 ∧ c.phase = 6 ∧ c.seek = 0 ∧ c.met = false := by
    cases hf : few11 g c with
    | false => rw [hf] at h; exact absurd h (by simp)
    | true =>
      rw [hf] at h
      by_cases k1 : cs.length ≤ 4
      · rw [decide_eq_false (show ¬ (cs.length : Int) > 4 by omega)] at h
        by_cases k2 : c.phase = 6
        · rw [k2] at h
          by_cases k3 : c.seek = 0
          · rw [k3] at h
            exact ⟨rfl, k1, k2, k3, h⟩
          · rw [show (c.seek != 0) = true by simpa using k3] at h; exact absurd h (by simp)
        · rw [show (c.phase != 6) = true by simpa using k2] at h; exact absurd h (by simp)
      · rw [decide_eq_true (show (cs.length : Int) > 4 by omega)] at h; exact absurd h (by simp)
  obtain ⟨hf, h4, hph, hsk, hmt⟩ := hc
  obtain ⟨f1, f2, f3, f4, f5⟩ := few18_of hf
  show ∃ n, _
  refine ⟨0, ALoop.inv (ι := {i : Nat // i ≤ cs.length ∧ ∀ j, j < i → lightL (cs.getD j default)}) (fun q => ⟨[(2, .c (.d (.sl .lists (cs)))), (3, .c (.d (.rp (g.enc)))), (4, .c (.d (.rp (c.enc)))), (9, .int (q.1))], [], 32⟩) (fun q => cs.length - q.1) ⟨0, Nat.zero_le _, fun j hj => absurd hj (by omega)⟩ ?_ ?_⟩
  · exact ⟨[], (by repeat' first | exact .nil | refine .cons _ _ _ ?_ ?_ | exact .same | exact .c _ _ (.own _ _ rfl) | exact .c _ _ (.ptr _ _ _ _ rfl) | exact .c _ _ (.frz _ _ rfl) | exact .any _), (by exact .nil), (by rfl)⟩
  rintro ⟨i, hi, hn⟩
  have hi : i ≤ cs.length := hi
  have hn : ∀ j, j < i → lightL (cs.getD j default) := hn
  show ABr (decide ((i : Int) < (cs.length : Int))) _ _
  refine ⟨fun h => ?_, fun h => ?_⟩
  · have hlt : i < cs.length := by simpa using h
    have wi : IntKind.i64.wrap ((i : Int) + 1) = ((i + 1 : Nat) : Int) := wrapP (i := i) (by unfold maxN; omega)
    show AOb ((0 : Int) ≤ (i : Int) ∧ (i : Int) < (cs.length : Int)) _
    refine ⟨by omega, ?_⟩
    show ACall _ _ _ _ _ _
    refine call_ret (Light_spec (cs.getD i default)) rfl ?_
    show ABr (!decide (lightL (cs.getD i default))) _ _
    refine ⟨fun h => ?_, fun h => ?_⟩
    · show ARet _ _ _
      exact ret_d rfl ⟨rfl, rfl⟩
    · have hli : lightL (cs.getD i default) := by simpa using h
      have hnn : ∀ j, j < i + 1 → lightL (cs.getD j default) := fun j hj => by
        by_cases e : j = i
        · subst e; exact hli
        · exact hn j (by omega)
      show ARound _ _ _ _
      exact ⟨⟨i + 1, hlt, hnn⟩, (by dsimp only; omega), [], (by repeat' first | exact .nil | refine .cons _ _ _ ?_ ?_ | exact .int_eq wi | exact .same | exact .c _ _ (.own _ _ rfl) | exact .c _ _ (.ptr _ _ _ _ rfl) | exact .c _ _ (.frz _ _ rfl) | exact .any _), (by exact .nil), (by rfl)⟩
  have hge : i = cs.length := by simp at h; omega
  have hall : ∀ l ∈ cs, lightL l := mem_of_lt (by rw [← hge]; exact hn)
  have hfl := flats_few f1 h4 hall
  have hcm : cs.length < most := by unfold most; omega
  show ACall _ _ _ _ _ _
  refine call_ret (Whole_spec g cs hfl hcm) rfl ?_
  cases hwh : wholeH g cs with
  | false =>
    show ABr _ _ _
    refine ⟨fun _ => ?_, fun h => absurd h (by decide)⟩
    show ARet _ _ _
    exact ret_d rfl ⟨rfl, rfl⟩
  | true =>
    show ABr _ _ _
    refine ⟨fun h => absurd h (by decide), fun _ => ?_⟩
    have hrun := sw_run hwh hph hsk hmt
    have hok := swN_ok g c f2 f3 f4
    have hw130 : g.w.length ≤ 130 := by have := of_decide_eq_true f1; omega
    have wn : IntKind.i64.wrap ((g.w.length : Int) + 1) = ((g.w.length + 1 : Nat) : Int) := wrapP (i := g.w.length) (by unfold maxN; omega)
    show ∃ n, _
    refine ⟨0, ALoop.inv (ι := {i : Nat // i ≤ g.w.length + 1}) (fun q => ⟨[(2, .c (.d (.sl .lists (cs)))), (3, .c (.d (.rp (g.enc)))), (4, .c (.d (.rp (c.enc)))), (10, .c (.ptr 0 0 0)), (11, .c (.ptr 1 0 0)), (12, .int (((g.w.length + 1 : Nat) : Int))), (13, .int (q.1))], [(0, .vars ((swN g c q.1).1.enc.map .d)), (1, .vars ((swN g c q.1).2.enc.map .d))], 96⟩) (fun q => g.w.length + 1 - q.1) ⟨0, Nat.zero_le _⟩ ?_ ?_⟩
    · exact ⟨[(320, 0), (416, 1)], (by repeat' first | exact .nil | refine .cons _ _ _ ?_ ?_ | exact .int_eq wn | exact .same | exact .c _ _ (.own _ _ rfl) | exact .c _ _ (.ptr _ _ _ _ rfl) | exact .c _ _ (.frz _ _ rfl) | exact .any _), (by exact .old 0 320 _ _ _ rfl rfl (.vars _ _ (LeL_refl rfl)) (.old 1 416 _ _ _ rfl rfl (.vars _ _ (LeL_refl rfl)) .nil)), (by rfl)⟩
    rintro ⟨i, hi⟩
    have hi : i ≤ g.w.length + 1 := hi
    obtain ⟨ok1, ok2, ok3⟩ := hok i
    show ABr (bif decide ((i : Int) < ((g.w.length + 1 : Nat) : Int)) then (swN g c i).2.phase == 6 else false) _ _
    refine ⟨fun h => ?_, fun h => ?_⟩
    · have hlt : i < g.w.length + 1 := by
        by_cases k : (i : Int) < ((g.w.length + 1 : Nat) : Int)
        · omega
        · rw [decide_eq_false k] at h; exact absurd h (by simp)
      have wi : IntKind.i64.wrap ((i : Int) + 1) = ((i + 1 : Nat) : Int) := wrapP (i := i) (by unfold maxN; omega)
      show ACall _ _ _ _ _ _
      refine call_ret (swStep_spec (swN g c i).1 (swN g c i).2 ok1 ok2 (work18 ok3)) rfl ?_
      show ARound _ _ _ _
      exact ⟨⟨i + 1, hlt⟩, (by dsimp only; omega), [(0, 0), (1, 1)], (by repeat' first | exact .nil | refine .cons _ _ _ ?_ ?_ | exact .int_eq wi | exact .same | exact .c _ _ (.own _ _ rfl) | exact .c _ _ (.ptr _ _ _ _ rfl) | exact .c _ _ (.frz _ _ rfl) | exact .any _), (by exact .old 0 0 _ _ _ rfl rfl (.vars _ _ (LeL_refl rfl)) (.old 1 1 _ _ _ rfl rfl (.vars _ _ (LeL_refl rfl)) .nil)), (by rfl)⟩
    · have hov : SwOver g c cs (swN g c i).1 (swN g c i).2 := by
        rcases hrun i with ⟨k1, k2⟩ | k1
        · exfalso
          have hp := k1.ph
          rw [hp] at h
          by_cases k : (i : Int) < ((g.w.length + 1 : Nat) : Int)
          · rw [decide_eq_true k] at h; exact absurd h (by decide)
          · have : 1 ≤ potS (swN g c i).1 (swN g c i).2 := by unfold potS; omega
            omega
        · exact k1
      clear hrun hok h hi
      generalize swN g c i = S at hov ok1 ok2 ok3
      obtain ⟨k, d⟩ := S
      have hov : SwOver g c cs k d := hov
      have kl : k.light := ok1
      obtain ⟨v1, v2, v3, v4, v5, v6⟩ := hov
      show AIf _ _ _
      refine ⟨fun _ => ?_, fun h => absurd ⟨(by show (d.phase != 0) = false; rw [v1]; rfl), trivial⟩ h⟩
      show ACall _ _ _ _ _ _
      refine call_ret (Whole_spec k cs (may_flats (whole_may v4)) hcm) rfl ?_
      rw [v4]
      show ABr (bif (bif !true then true else d.epoch != c.epoch) then true else decide ((d.work.length : Int) > 0)) _ _
      refine ⟨fun h => absurd h (by rw [v2, v3]; simp), fun _ => ?_⟩
      show ACall _ _ _ _ _ _
      refine call_ret (hUsed_spec g f2) rfl ?_
      have hlen : (usedH g).length ≤ 512 := used_len g
      show ∃ n, _
      refine ⟨0, ALoop.inv (ι := {j : Nat // j ≤ (usedH g).length}) (fun q => ⟨[(3, .c (.d (.rp (g.enc)))), (4, .c (.d (.rp (c.enc)))), (10, .c (.d (.rp (k.enc)))), (14, .c (.d (.sl .int (usedH g)))), (15, .int (((leftN g c q.1 : Nat) : Int))), (16, .int (q.1))], [], 32⟩) (fun q => (usedH g).length - q.1) ⟨0, Nat.zero_le _⟩ ?_ ?_⟩
      · exact ⟨[], (by repeat' first | exact .nil | refine .cons _ _ _ ?_ ?_ | exact .same | exact .c _ _ (.own _ _ rfl) | exact .c _ _ (.ptr _ _ _ _ rfl) | exact .c _ _ (.frz _ _ rfl) | exact .any _), (by exact .nil), (by rfl)⟩
      rintro ⟨j, hj⟩
      have hj : j ≤ (usedH g).length := hj
      have hln : leftN g c j ≤ j := leftN_le g c j
      show ABr (decide ((j : Int) < ((usedH g).length : Int))) _ _
      refine ⟨fun h => ?_, fun h => ?_⟩
      · have hjl : j < (usedH g).length := by have := of_decide_eq_true h; omega
        have wj : IntKind.i64.wrap ((j : Int) + 1) = ((j + 1 : Nat) : Int) := wrapP (i := j) (by unfold maxN; omega)
        have hu : headE g (at0 (usedH g) j) = 0 := mem_usedH.1 (by rw [at0_get hjl]; exact List.getElem_mem _)
        have hfin := v6 _ hu
        have hstep := leftN_step g c hjl
        have hob : (0 : Int) ≤ (j : Int) ∧ (j : Int) < ((usedH g).length : Int) := by omega
        show AOb ((0 : Int) ≤ (j : Int) ∧ (j : Int) < ((usedH g).length : Int)) _
        refine ⟨hob, ?_⟩
        show ADCall _ _ _ _ _ _
        refine .mk _ _ (rFate18_spec g c (at0 (usedH g) j) f2 hw) rfl ?_
        show AOb ((0 : Int) ≤ (j : Int) ∧ (j : Int) < ((usedH g).length : Int)) _
        refine ⟨hob, ?_⟩
        show ADCall _ _ _ _ _ _
        refine .mk _ _ (hHead_spec g (at0 (usedH g) j) f2) rfl ?_
        show AOb ((0 : Int) ≤ (j : Int) ∧ (j : Int) < ((usedH g).length : Int)) _
        refine ⟨hob, ?_⟩
        show ADCall _ _ _ _ _ _
        refine .mk _ _ (hHead_spec k (at0 (usedH g) j) kl) rfl ?_
        show ABr (fateH g c (at0 (usedH g) j) == 1) _ _
        rcases hfin with ⟨q1, q2⟩ | ⟨q1, q2, q3, q4⟩
        · rw [if_pos q1] at hstep
          rw [show (fateH g c (at0 (usedH g) j) == 1) = true by rw [q1]; rfl]
          show ABr _ _ _
          refine ⟨fun _ => ?_, fun h => absurd h (by decide)⟩
          show ABr (headE k (at0 (usedH g) j) == 0) _ _
          rw [show (headE k (at0 (usedH g) j) == 0) = false by simpa using q2]
          show ABr _ _ _
          refine ⟨fun h => absurd h (by decide), fun _ => ?_⟩
          have el : ((leftN g c j : Nat) : Int) = ((leftN g c (j + 1) : Nat) : Int) := by rw [hstep]; rfl
          show ARound _ _ _ _
          exact ⟨⟨j + 1, hjl⟩, (by dsimp only; omega), [], (by repeat' first | exact .nil | refine .cons _ _ _ ?_ ?_ | exact .int_eq el | exact .int_eq wj | exact .same | exact .c _ _ (.own _ _ rfl) | exact .c _ _ (.ptr _ _ _ _ rfl) | exact .c _ _ (.frz _ _ rfl) | exact .any _), (by exact .nil), (by rfl)⟩
        · rw [if_neg q1] at hstep
          rw [show (fateH g c (at0 (usedH g) j) == 1) = false by simpa using q1]
          show ABr _ _ _
          refine ⟨fun h => absurd h (by decide), fun _ => ?_⟩
          have el : IntKind.i64.wrap (((leftN g c j : Nat) : Int) + 1) = ((leftN g c (j + 1) : Nat) : Int) := by rw [hstep]; exact wrapP (i := leftN g c j) (by unfold maxN; omega)
          show ABr (fateH g c (at0 (usedH g) j) == 2) _ _
          by_cases k2 : fateH g c (at0 (usedH g) j) = 2
          · rw [show (fateH g c (at0 (usedH g) j) == 2) = true by rw [k2]; rfl]
            show ABr _ _ _
            refine ⟨fun _ => ?_, fun h => absurd h (by decide)⟩
            rw [if_pos k2] at q3
            show ABr (headE k (at0 (usedH g) j) != 0) _ _
            rw [show (headE k (at0 (usedH g) j) != 0) = false by rw [q2]; rfl]
            show ABr _ _ _
            refine ⟨fun h => absurd h (by decide), fun _ => ?_⟩
            show ABr (!hdB (agedH g (at0 (usedH g) j)) (headH k (at0 (usedH g) j))) _ _
            refine ⟨fun h => absurd h (by rw [q3, hdB_self]; decide), fun _ => ?_⟩
            show ABr (fateH g c (at0 (usedH g) j) == 2) _ _
            rw [show (fateH g c (at0 (usedH g) j) == 2) = true by rw [k2]; rfl]
            show ABr _ _ _
            refine ⟨fun _ => ?_, fun h => absurd h (by decide)⟩
            show AOb ((0 : Int) ≤ (j : Int) ∧ (j : Int) < ((usedH g).length : Int)) _
            refine ⟨hob, ?_⟩
            show ADCall _ _ _ _ _ _
            refine .mk _ _ (Is_spec k (at0 (usedH g) j) kl (used_lt hu)) rfl ?_
            rw [q4 k2]
            show ABr _ _ _
            refine ⟨fun h => absurd h (by decide), fun _ => ?_⟩
            have hr := head_room hu
            have hn : ((agedH g (at0 (usedH g) j))).n = (headH g (at0 (usedH g) j)).n := rfl
            have hfit := head_fits hu
            have hwl := v5.wlen
            have hnk : (headH g (at0 (usedH g) j)).n ≤ 63 := (may_range (head_may hu).1).1.2
            show ∃ n, _
            refine ⟨0, ALoop.inv (ι := {f : Nat // 1 ≤ f ∧ (f : Int) ≤ ((agedH g (at0 (usedH g) j))).n + 1}) (fun q => ⟨[(3, .c (.d (.rp (g.enc)))), (4, .c (.d (.rp (c.enc)))), (10, .c (.d (.rp (k.enc)))), (14, .c (.d (.sl .int (usedH g)))), (15, .int (((leftN g c (j + 1) : Nat) : Int))), (16, .int ((j : Int))), (18, .c (.d (.rp (((agedH g (at0 (usedH g) j))).enc)))), (22, .int (q.1))], [], 32⟩) (fun q => 65 - q.1) ⟨1, by omega, by omega⟩ ?_ ?_⟩
            · exact ⟨[], (by repeat' first | exact .nil | refine .cons _ _ _ ?_ ?_ | exact .int_eq el | exact .same | exact .c _ _ (.own _ _ rfl) | exact .c _ _ (.ptr _ _ _ _ rfl) | exact .c _ _ (.frz _ _ rfl) | exact .any _), (by exact .nil), (by rfl)⟩
            rintro ⟨f, hf1, hf2⟩
            have hf1 : 1 ≤ f := hf1
            have hf2 : (f : Int) ≤ ((agedH g (at0 (usedH g) j))).n + 1 := hf2
            show ABr (decide ((f : Int) ≤ ((agedH g (at0 (usedH g) j))).n)) _ _
            refine ⟨fun h => ?_, fun h => ?_⟩
            · have hfl : (f : Int) ≤ (headH g (at0 (usedH g) j)).n := by have := of_decide_eq_true h; omega
              have wf : IntKind.i64.wrap ((f : Int) + 1) = ((f + 1 : Nat) : Int) := wrapP (i := f) (by unfold maxN; omega)
              have w1 : IntKind.i64.wrap ((at0 (usedH g) j) + (f : Int)) = (at0 (usedH g) j) + (f : Int) := wrap64 (by omega) (by omega)
              have w2 : IntKind.i64.wrap ((at0 (usedH g) j) + (f : Int) - 16) = (at0 (usedH g) j) + (f : Int) - 16 := wrap64 (by omega) (by omega)
              have w3 : IntKind.i64.wrap (IntKind.i64.wrap ((at0 (usedH g) j) + (f : Int)) - 16) = (at0 (usedH g) j) + (f : Int) - 16 := by rw [w1, w2]
              have hword : at0 k.w ((at0 (usedH g) j) + (f : Int) - 16).toNat = at0 g.w ((at0 (usedH g) j) + (f : Int) - 16).toNat := v5.word _ q2 (f : Int) (by omega) (by omega)
              show AOb ((0 : Int) ≤ (j : Int) ∧ (j : Int) < ((usedH g).length : Int)) _
              refine ⟨hob, ?_⟩
              show AOb ((0 : Int) ≤ IntKind.i64.wrap (IntKind.i64.wrap ((at0 (usedH g) j) + (f : Int)) - 16) ∧ IntKind.i64.wrap (IntKind.i64.wrap ((at0 (usedH g) j) + (f : Int)) - 16) < (k.w.length : Int)) _
              refine ⟨by rw [w3]; omega, ?_⟩
              show AOb ((0 : Int) ≤ (j : Int) ∧ (j : Int) < ((usedH g).length : Int)) _
              refine ⟨hob, ?_⟩
              show AOb ((0 : Int) ≤ IntKind.i64.wrap (IntKind.i64.wrap ((at0 (usedH g) j) + (f : Int)) - 16) ∧ IntKind.i64.wrap (IntKind.i64.wrap ((at0 (usedH g) j) + (f : Int)) - 16) < (g.w.length : Int)) _
              refine ⟨by rw [w3]; omega, ?_⟩
              show ABr (at0 k.w (IntKind.i64.wrap (IntKind.i64.wrap ((at0 (usedH g) j) + (f : Int)) - 16)).toNat != at0 g.w (IntKind.i64.wrap (IntKind.i64.wrap ((at0 (usedH g) j) + (f : Int)) - 16)).toNat) _ _
              refine ⟨fun h => absurd h (by rw [w3, hword]; simp), fun _ => ?_⟩
              show ARound _ _ _ _
              exact ⟨⟨f + 1, by omega, by omega⟩, (by dsimp only; omega), [], (by repeat' first | exact .nil | refine .cons _ _ _ ?_ ?_ | exact .int_eq wf | exact .same | exact .c _ _ (.own _ _ rfl) | exact .c _ _ (.ptr _ _ _ _ rfl) | exact .c _ _ (.frz _ _ rfl) | exact .any _), (by exact .nil), (by rfl)⟩
            · show ARound _ _ _ _
              exact ⟨⟨j + 1, hjl⟩, (by dsimp only; omega), [], (by repeat' first | exact .nil | refine .cons _ _ _ ?_ ?_ | exact .int_eq wj | exact .same | exact .c _ _ (.own _ _ rfl) | exact .c _ _ (.ptr _ _ _ _ rfl) | exact .c _ _ (.frz _ _ rfl) | exact .any _), (by exact .nil), (by rfl)⟩
          · rw [show (fateH g c (at0 (usedH g) j) == 2) = false by simpa using k2]
            show ABr _ _ _
            refine ⟨fun h => absurd h (by decide), fun _ => ?_⟩
            rw [if_neg k2] at q3
            show ABr (headE k (at0 (usedH g) j) != 0) _ _
            rw [show (headE k (at0 (usedH g) j) != 0) = false by rw [q2]; rfl]
            show ABr _ _ _
            refine ⟨fun h => absurd h (by decide), fun _ => ?_⟩
            show ABr (!hdB (headH g (at0 (usedH g) j)) (headH k (at0 (usedH g) j))) _ _
            refine ⟨fun h => absurd h (by rw [q3, hdB_self]; decide), fun _ => ?_⟩
            show ABr (fateH g c (at0 (usedH g) j) == 2) _ _
            rw [show (fateH g c (at0 (usedH g) j) == 2) = false by simpa using k2]
            show ABr _ _ _
            refine ⟨fun h => absurd h (by decide), fun _ => ?_⟩
            show ABr _ _ _
            refine ⟨fun h => absurd h (by decide), fun _ => ?_⟩
            have hr := head_room hu
            have hn : ((headH g (at0 (usedH g) j))).n = (headH g (at0 (usedH g) j)).n := rfl
            have hfit := head_fits hu
            have hwl := v5.wlen
            have hnk : (headH g (at0 (usedH g) j)).n ≤ 63 := (may_range (head_may hu).1).1.2
            show ∃ n, _
            refine ⟨0, ALoop.inv (ι := {f : Nat // 1 ≤ f ∧ (f : Int) ≤ ((headH g (at0 (usedH g) j))).n + 1}) (fun q => ⟨[(3, .c (.d (.rp (g.enc)))), (4, .c (.d (.rp (c.enc)))), (10, .c (.d (.rp (k.enc)))), (14, .c (.d (.sl .int (usedH g)))), (15, .int (((leftN g c (j + 1) : Nat) : Int))), (16, .int ((j : Int))), (18, .c (.d (.rp (((headH g (at0 (usedH g) j))).enc)))), (22, .int (q.1))], [], 32⟩) (fun q => 65 - q.1) ⟨1, by omega, by omega⟩ ?_ ?_⟩
            · exact ⟨[], (by repeat' first | exact .nil | refine .cons _ _ _ ?_ ?_ | exact .int_eq el | exact .same | exact .c _ _ (.own _ _ rfl) | exact .c _ _ (.ptr _ _ _ _ rfl) | exact .c _ _ (.frz _ _ rfl) | exact .any _), (by exact .nil), (by rfl)⟩
            rintro ⟨f, hf1, hf2⟩
            have hf1 : 1 ≤ f := hf1
            have hf2 : (f : Int) ≤ ((headH g (at0 (usedH g) j))).n + 1 := hf2
            show ABr (decide ((f : Int) ≤ ((headH g (at0 (usedH g) j))).n)) _ _
            refine ⟨fun h => ?_, fun h => ?_⟩
            · have hfl : (f : Int) ≤ (headH g (at0 (usedH g) j)).n := by have := of_decide_eq_true h; omega
              have wf : IntKind.i64.wrap ((f : Int) + 1) = ((f + 1 : Nat) : Int) := wrapP (i := f) (by unfold maxN; omega)
              have w1 : IntKind.i64.wrap ((at0 (usedH g) j) + (f : Int)) = (at0 (usedH g) j) + (f : Int) := wrap64 (by omega) (by omega)
              have w2 : IntKind.i64.wrap ((at0 (usedH g) j) + (f : Int) - 16) = (at0 (usedH g) j) + (f : Int) - 16 := wrap64 (by omega) (by omega)
              have w3 : IntKind.i64.wrap (IntKind.i64.wrap ((at0 (usedH g) j) + (f : Int)) - 16) = (at0 (usedH g) j) + (f : Int) - 16 := by rw [w1, w2]
              have hword : at0 k.w ((at0 (usedH g) j) + (f : Int) - 16).toNat = at0 g.w ((at0 (usedH g) j) + (f : Int) - 16).toNat := v5.word _ q2 (f : Int) (by omega) (by omega)
              show AOb ((0 : Int) ≤ (j : Int) ∧ (j : Int) < ((usedH g).length : Int)) _
              refine ⟨hob, ?_⟩
              show AOb ((0 : Int) ≤ IntKind.i64.wrap (IntKind.i64.wrap ((at0 (usedH g) j) + (f : Int)) - 16) ∧ IntKind.i64.wrap (IntKind.i64.wrap ((at0 (usedH g) j) + (f : Int)) - 16) < (k.w.length : Int)) _
              refine ⟨by rw [w3]; omega, ?_⟩
              show AOb ((0 : Int) ≤ (j : Int) ∧ (j : Int) < ((usedH g).length : Int)) _
              refine ⟨hob, ?_⟩
              show AOb ((0 : Int) ≤ IntKind.i64.wrap (IntKind.i64.wrap ((at0 (usedH g) j) + (f : Int)) - 16) ∧ IntKind.i64.wrap (IntKind.i64.wrap ((at0 (usedH g) j) + (f : Int)) - 16) < (g.w.length : Int)) _
              refine ⟨by rw [w3]; omega, ?_⟩
              show ABr (at0 k.w (IntKind.i64.wrap (IntKind.i64.wrap ((at0 (usedH g) j) + (f : Int)) - 16)).toNat != at0 g.w (IntKind.i64.wrap (IntKind.i64.wrap ((at0 (usedH g) j) + (f : Int)) - 16)).toNat) _ _
              refine ⟨fun h => absurd h (by rw [w3, hword]; simp), fun _ => ?_⟩
              show ARound _ _ _ _
              exact ⟨⟨f + 1, by omega, by omega⟩, (by dsimp only; omega), [], (by repeat' first | exact .nil | refine .cons _ _ _ ?_ ?_ | exact .int_eq wf | exact .same | exact .c _ _ (.own _ _ rfl) | exact .c _ _ (.ptr _ _ _ _ rfl) | exact .c _ _ (.frz _ _ rfl) | exact .any _), (by exact .nil), (by rfl)⟩
            · show ARound _ _ _ _
              exact ⟨⟨j + 1, hjl⟩, (by dsimp only; omega), [], (by repeat' first | exact .nil | refine .cons _ _ _ ?_ ?_ | exact .int_eq wj | exact .same | exact .c _ _ (.own _ _ rfl) | exact .c _ _ (.ptr _ _ _ _ rfl) | exact .c _ _ (.frz _ _ rfl) | exact .any _), (by exact .nil), (by rfl)⟩
      · show ACall _ _ _ _ _ _
        refine call_ret (hUsed_spec k kl) rfl ?_
        obtain rfl : j = (usedH g).length := by have := of_decide_eq_false h; omega
        have ea := leftN_all v5 v6
        show ARet _ _ _
        refine ret_bo (x := decide (((usedH k).length : Int) = ((leftN g c (usedH g).length : Nat) : Int))) (decide_eq_true (by rw [ea])) ⟨rfl, rfl⟩
end Go.Abs
