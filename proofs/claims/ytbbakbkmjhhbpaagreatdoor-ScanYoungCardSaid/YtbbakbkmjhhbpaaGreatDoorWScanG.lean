/- Walks: just what old objects on dirty cards have is shaded. -/
import Derived.Test.YtbbakbkmjhhbpaaGreatDoorWScanD
set_option linter.all false
set_option linter.unusedVariables false
set_option linter.unusedSimpArgs false
namespace Go.Abs
open Go.Proofs Go.Proofs.YtbbakbkmjhhbpaaGreatDoor
set_option maxRecDepth 8000

def hadV (g : Hp) (a x : Int) (f : Nat) : Bool := decide (wordAt g (x + ((f + 1 : Nat) : Int)) = a)
def hadU (g : Hp) (a x : Int) : Bool := (headH g x).old && (isDirty g x && (List.range (headH g x).n.toNat).any (hadV g a x))
def hadB (g : Hp) (a : Int) : Bool := (usedH g).any (hadU g a)
theorem had_iff {g : Hp} {a : Int} : hadB g a = true ↔ ∃ x f, isO g x ∧ isDirty g x = true ∧ 1 ≤ f ∧ f ≤ (headH g x).n ∧ a = wordAt g (x + f) := by
  unfold hadB
  rw [List.any_eq_true]
  constructor
  · rintro ⟨x, hx, h⟩
    unfold hadU at h
    rw [Bool.and_eq_true, Bool.and_eq_true, List.any_eq_true] at h
    obtain ⟨h1, h2, f, hf, h3⟩ := h
    have := List.mem_range.1 hf
    exact ⟨x, ((f + 1 : Nat) : Int), ⟨mem_usedH.1 hx, h1⟩, h2, by omega, by omega, (of_decide_eq_true h3).symm⟩
  · rintro ⟨x, f, hO, h2, f1, f2, h3⟩
    refine ⟨x, mem_usedH.2 hO.1, ?_⟩
    unfold hadU
    rw [Bool.and_eq_true, Bool.and_eq_true, List.any_eq_true]
    refine ⟨hO.2, h2, (f - 1).toNat, List.mem_range.2 (by omega), ?_⟩
    unfold hadV
    rw [show (((f - 1).toNat + 1 : Nat) : Int) = f by omega]
    exact decide_eq_true h3.symm

set_option maxHeartbeats 2000000 in
theorem tHad_spec (g : Hp) (a : Int) (hl : g.light) (hw : ∀ x ∈ g.w, I64 x) : Spec X 24 [] [g.tv, .int a] (Ret [] (.bo (hadB g a))) := by
  refine spec_go X_ok Tryz.f24 (by kernel_rfl) (by kernel_rfl) (by kernel_rfl) fun hb hH => ⟨rfl, ?_⟩
  show ACall _ _ _ _ _ _
  refine .mk _ (rUsed7_spec g hl hw) fun H r ⟨eH, er⟩ _ _ => ⟨.inl rfl, ?_⟩
  subst eH er
  obtain ⟨U, hU⟩ : ∃ U, U = usedH g := ⟨_, rfl⟩
  rw [← hU]
  have hUl : U.length ≤ 512 := by rw [hU]; exact (by
    unfold usedH
    cases mayH g [] with
    | false => simp
    | true => exact Nat.le_trans (List.length_filter_le _ _) (starts_len g.pages))
  show ∃ n, _
  refine ⟨0, ALoop.inv (ι := {i : Nat // i ≤ U.length ∧ (U.take i).any (hadU g a) = false}) (fun q => ⟨[(1, .int (a)), (2, .c (.d (.rp (g.enc)))), (5, .c (.d (.sl .int (U)))), (6, .int (q.1))], [], 32⟩) (fun q => U.length - q.1) ⟨0, Nat.zero_le _, rfl⟩ ?_ ?_⟩
  · exact ⟨[], (by repeat' first | exact .nil | refine .cons _ _ _ ?_ ?_ | exact .same | exact .c _ _ (.own _ _ rfl) | exact .c _ _ (.ptr _ _ _ _ rfl) | exact .c _ _ (.frz _ _ rfl) | exact .any _), (by exact .nil), (by rfl)⟩
  · rintro ⟨i, hi, hv⟩
    show ABr (decide ((i : Int) < (U.length : Int))) _ _
    refine ⟨fun h => ?_, fun h => ?_⟩
    · have hlt : i < U.length := by simpa using h
      have wi : IntKind.i64.wrap ((i : Int) + 1) = ((i + 1 : Nat) : Int) := wrapP (i := i) (by unfold maxN; omega)
      have hmem : U.getD i default ∈ U := by
        rw [List.getD_eq_getElem?_getD, List.getElem?_eq_getElem hlt]
        exact List.getElem_mem hlt
      have h0 : headE g (U.getD i default) = 0 := mem_usedH.1 (hU ▸ hmem)
      have hstep : hadU g a (U.getD i default) = false → (U.take (i + 1)).any (hadU g a) = false := fun hn => by
        rw [take_at0 hlt, List.any_append, hv]
        simpa [at0] using hn
      have hn63 : (headH g (U.getD i default)).n ≤ 63 := by
        obtain ⟨hm, hu⟩ := head_may h0
        unfold Hd.May at hm
        rw [if_pos hu] at hm
        exact hm.1.2
      have hfit := head_fits h0
      have e11 : (1 : Int) = ((0 + 1 : Nat) : Int) := rfl
      show AOb ((0 : Int) ≤ (i : Int) ∧ (i : Int) < (U.length : Int)) _
      refine ⟨by omega, ?_⟩
      show ADCall _ _ _ _ _ _
      refine .mk _ _ (rHead7_spec g (U.getD i default) hl hw) rfl ?_
      show ∃ n, _
      refine ⟨0, ALoop.inv (ι := {f : Nat // (f : Int) ≤ (headH g (U.getD i default)).n ∧ (List.range f).any (hadV g a (U.getD i default)) = false}) (fun q => ⟨[(1, .int (a)), (2, .c (.d (.rp (g.enc)))), (5, .c (.d (.sl .int (U)))), (6, .int (i)), (7, .c (.d (.rp ((headH g (U.getD i default)).enc)))), (9, .int (((q.1 + 1 : Nat) : Int)))], [], 32⟩) (fun q => (headH g (U.getD i default)).n.toNat - q.1) ⟨0, by show (0 : Int) ≤ _; omega, rfl⟩ ?_ ?_⟩
      · exact ⟨[], (by repeat' first | exact .nil | refine .cons _ _ _ ?_ ?_ | exact .int_eq e11 | exact .same | exact .c _ _ (.own _ _ rfl) | exact .c _ _ (.ptr _ _ _ _ rfl) | exact .c _ _ (.frz _ _ rfl) | exact .any _), (by exact .nil), (by rfl)⟩
      rintro ⟨f, hf, hfv⟩
      have wf : IntKind.i64.wrap (((f + 1 : Nat) : Int) + 1) = ((f + 1 + 1 : Nat) : Int) := wrapP (i := f + 1) (by have : (f : Int) ≤ _ := hf; unfold maxN; omega)
      show ABr (decide (((f + 1 : Nat) : Int) ≤ (headH g (U.getD i default)).n)) _ _
      refine ⟨fun h => ?_, fun h => ?_⟩
      · have hfl := of_decide_eq_true h
        show ABr ((headH g (U.getD i default)).old) _ _
        refine ⟨fun hold => ?_, fun hold => ?_⟩
        · show AOb ((0 : Int) ≤ (i : Int) ∧ (i : Int) < (U.length : Int)) _
          refine ⟨by omega, ?_⟩
          show ADCall _ _ _ _ _ _
          refine .mk _ _ (rIs10_spec g (U.getD i default) hl hw) rfl ?_
          show ABr (isDirty g (U.getD i default)) _ _
          refine ⟨fun hdr => ?_, fun hdr => ?_⟩
          · obtain ⟨z1, z2, z3⟩ := field_get h0 hfl
            have hval : g.w.getD (IntKind.i64.wrap (IntKind.i64.wrap (U.getD i default + ((f + 1 : Nat) : Int)) - 16)).toNat default = wordAt g (U.getD i default + ((f + 1 : Nat) : Int)) := by
              rw [z1]; rfl
            have hst : (List.range (f + 1)).any (hadV g a (U.getD i default)) = decide (g.w.getD (IntKind.i64.wrap (IntKind.i64.wrap (U.getD i default + ((f + 1 : Nat) : Int)) - 16)).toNat default = a) := by
              rw [List.range_succ, List.any_append, hfv, hval]
              simp [hadV]
            show AOb ((0 : Int) ≤ (i : Int) ∧ (i : Int) < (U.length : Int)) _
            refine ⟨by omega, ?_⟩
            show AOb ((0 : Int) ≤ IntKind.i64.wrap (IntKind.i64.wrap (U.getD i default + ((f + 1 : Nat) : Int)) - 16) ∧ IntKind.i64.wrap (IntKind.i64.wrap (U.getD i default + ((f + 1 : Nat) : Int)) - 16) < (g.w.length : Int)) _
            refine ⟨by rw [z1]; omega, ?_⟩
            show ABr (decide (g.w.getD (IntKind.i64.wrap (IntKind.i64.wrap (U.getD i default + ((f + 1 : Nat) : Int)) - 16)).toNat default = a)) _ _
            refine ⟨fun h => ?_, fun h => ?_⟩
            · show ARet _ _ _
              refine ret_bo (x := true) ?_ ⟨rfl, rfl⟩
              refine (had_iff.2 ⟨U.getD i default, ((f + 1 : Nat) : Int), ⟨h0, hold⟩, hdr, by omega, hfl, ?_⟩).symm
              rw [← hval]
              exact (of_decide_eq_true h).symm
            · rw [h] at hst
              show ARound _ _ _ _
              exact ⟨⟨f + 1, hfl, hst⟩, (by dsimp only; omega), [], (by repeat' first | exact .nil | refine .cons _ _ _ ?_ ?_ | exact .int_eq wf | exact .same | exact .c _ _ (.own _ _ rfl) | exact .c _ _ (.ptr _ _ _ _ rfl) | exact .c _ _ (.frz _ _ rfl) | exact .any _), (by exact .nil), (by rfl)⟩
          · have hn : hadU g a (U.getD i default) = false := by unfold hadU; rw [hdr, Bool.false_and, Bool.and_false]
            show ARound _ _ _ _
            exact ⟨⟨i + 1, hlt, hstep hn⟩, (by dsimp only; omega), [], (by repeat' first | exact .nil | refine .cons _ _ _ ?_ ?_ | exact .int_eq wi | exact .same | exact .c _ _ (.own _ _ rfl) | exact .c _ _ (.ptr _ _ _ _ rfl) | exact .c _ _ (.frz _ _ rfl) | exact .any _), (by exact .nil), (by rfl)⟩
        · have hn : hadU g a (U.getD i default) = false := by unfold hadU; rw [hold, Bool.false_and]
          show ABr _ _ _
          refine ⟨fun h => absurd h (by decide), fun _ => ?_⟩
          show ARound _ _ _ _
          exact ⟨⟨i + 1, hlt, hstep hn⟩, (by dsimp only; omega), [], (by repeat' first | exact .nil | refine .cons _ _ _ ?_ ?_ | exact .int_eq wi | exact .same | exact .c _ _ (.own _ _ rfl) | exact .c _ _ (.ptr _ _ _ _ rfl) | exact .c _ _ (.frz _ _ rfl) | exact .any _), (by exact .nil), (by rfl)⟩
      · have hfl := of_decide_eq_false h
        have hfe : f = (headH g (U.getD i default)).n.toNat := by have : (f : Int) ≤ _ := hf; omega
        have hn : hadU g a (U.getD i default) = false := by
          unfold hadU
          rw [← hfe, hfv, Bool.and_false, Bool.and_false]
        show ABr _ _ _
        refine ⟨fun h => absurd h (by decide), fun _ => ?_⟩
        show ABr _ _ _
        refine ⟨fun h => absurd h (by decide), fun _ => ?_⟩
        show ARound _ _ _ _
        exact ⟨⟨i + 1, hlt, hstep hn⟩, (by dsimp only; omega), [], (by repeat' first | exact .nil | refine .cons _ _ _ ?_ ?_ | exact .int_eq wi | exact .same | exact .c _ _ (.own _ _ rfl) | exact .c _ _ (.ptr _ _ _ _ rfl) | exact .c _ _ (.frz _ _ rfl) | exact .any _), (by exact .nil), (by rfl)⟩
    · have hge : i = U.length := by simp at h; omega
      show ARet _ _ _
      refine ret_bo (x := false) ?_ ⟨rfl, rfl⟩
      have hv : (U.take i).any (hadU g a) = false := hv
      rw [hge, List.take_length, hU] at hv
      exact hv.symm

theorem white_young {g : Hp} {c : Col} {u : Int} (h : atK g c u = 1) (hj : c.major = false) : youngH g u = true := by
  have h0 : headE g u = 0 := atK_ne (c := c) (by omega)
  rw [atK_yes h0] at h
  unfold youngH
  rw [decide_eq_true h0]
  cases ho : (headH g u).old with
  | false => rfl
  | true =>
    unfold colour at h
    rw [ho, hj] at h
    exact absurd h (by simp)

theorem ScEnd.young {g k : Hp} {c d : Col} (h : ScEnd g c k d) (hj : c.major = false) (u : Int) : (atK g c u = 1 ∧ decide (atK k d u = 2) = hadB g u) ∨ (atK g c u ≠ 1 ∧ atK k d u = atK g c u) := by
  rw [h.sk.at]
  by_cases h1 : atK g c u = 1
  · left
    refine ⟨h1, ?_⟩
    cases hh : hadB g u with
    | true =>
      obtain ⟨x, f, hO, hd, f1, f2, e⟩ := had_iff.1 hh
      rw [dirty_card hO] at hd
      have hy := white_young h1 hj
      rw [e] at hy
      have := h.shaded x hO hd f f1 f2 hy
      rw [← e] at this
      exact decide_eq_true (h.only u (by rw [h1]; exact this)).2.1
    | false =>
      apply decide_eq_false
      intro h2
      obtain ⟨_, _, x, f, hO, hd, f1, f2, e⟩ := h.only u (by rw [h1, h2]; decide)
      rw [← dirty_card hO] at hd
      have := had_iff.2 ⟨x, f, hO, hd, f1, f2, e⟩
      rw [hh] at this
      cases this
  · right
    refine ⟨h1, ?_⟩
    apply Classical.byContradiction
    intro hne
    exact h1 (h.only u hne).1

set_option maxHeartbeats 4000000 in
theorem ScanYoung_spec (g : Hp) (hw : ∀ x ∈ g.w, I64 x) (c : Col) : Spec X 7 [] [g.tv, c.tv] (Ret [] (.bo true)) := by
  refine spec_go X_ok Tryz.f7 (by kernel_rfl) (by kernel_rfl) (by kernel_rfl) fun hb hH => ⟨rfl, ?_⟩
  show ACall _ _ _ _ _ _
  refine call_ret (awake17_spec) rfl ?_
  show ACall _ _ _ _ _ _
  refine call_ret (few17_spec g c) rfl ?_
  cases hf : few11 g c with
  | false =>
    show AIf _ _ _
    refine ⟨fun h => absurd h.1 (by simp), fun _ => ?_⟩
    show AOb _ _
    refine ⟨by simp, ?_⟩
    show ABr _ _ _
    refine ⟨fun _ => ?_, fun h => absurd h (by simp)⟩
    show ARet _ _ _
    exact ret_d rfl ⟨rfl, rfl⟩
  | true =>
    obtain ⟨f1, f2, f3, f4, f5⟩ := few17_of hf
    show AIf ((bif (bif (bif !true then true else !true) then true else !decide (c.phase = 4)) then true else c.major) = false ∧ True) _ _
    by_cases hpj : c.phase = 4 ∧ c.major = false
    · obtain ⟨hp, hmj⟩ := hpj
      have hc0 : (bif (bif (bif !true then true else !true) then true else !decide (c.phase = 4)) then true else c.major) = false := by rw [decide_eq_true hp, hmj]; rfl
      refine ⟨fun _ => ?_, fun h => absurd ⟨hc0, trivial⟩ h⟩
      show ACall _ _ _ _ _ _
      refine call_ret (hHMay0_spec g f2) rfl ?_
      cases hm : mayH g [] with
      | false =>
        show ABr _ _ _
        refine ⟨fun _ => ?_, fun h => absurd h (by simp)⟩
        show ARet _ _ _
        exact ret_d rfl ⟨rfl, rfl⟩
      | true =>
        show ABr (bif (bif (bif (bif !true then true else !decide (c.card = 0)) then true else !decide (c.seek = 0)) then true else decide (c.epoch < 0)) then true else decide (c.epoch > 1048576)) _ _
        refine ⟨fun h => ?_, fun h => ?_⟩
        · show ARet _ _ _
          exact ret_d rfl ⟨rfl, rfl⟩
        · have hx : c.card = 0 ∧ c.seek = 0 := by simp at h; omega
          obtain ⟨x1, x2⟩ := hx
          have hW130 : g.w.length ≤ 130 := by have := of_decide_eq_true f1; omega
          have hC20 : g.cards.length ≤ 20 := by have := of_decide_eq_true f1; omega
          have hN := steps17 hW130 hC20
          obtain ⟨N, eN⟩ : ∃ N, N = 2 * g.w.length + 3 * g.cards.length + 1 := ⟨_, rfl⟩
          rw [← eN] at hN
          have hrun := sn_run hm hp x1 x2 f4
          show ∃ n, _
          refine ⟨0, ALoop.inv (ι := {i : Nat // i ≤ N}) (fun q => ⟨[(2, .c (.d (.rp (g.enc)))), (3, .c (.d (.rp (c.enc)))), (7, .c (.ptr 0 0 0)), (8, .c (.ptr 1 0 0)), (9, .int ((N : Int))), (10, .int (q.1))], [(0, .vars ((snN g c q.1).1.enc.map .d)), (1, .vars ((snN g c q.1).2.enc.map .d))], 96⟩) (fun q => N - q.1) ⟨0, Nat.zero_le _⟩ ?_ ?_⟩
          · exact ⟨[(1632, 0), (1728, 1)], (by repeat' first | exact .nil | refine .cons _ _ _ ?_ ?_ | exact .int_eq hN | exact .same | exact .c _ _ (.own _ _ rfl) | exact .c _ _ (.ptr _ _ _ _ rfl) | exact .c _ _ (.frz _ _ rfl) | exact .any _), (by exact .old 0 1632 _ _ _ rfl rfl (.vars _ _ (LeL_refl rfl)) (.old 1 1728 _ _ _ rfl rfl (.vars _ _ (LeL_refl rfl)) .nil)), (by rfl)⟩
          rintro ⟨i, hi⟩
          have hi : i ≤ N := hi
          have hr := hrun i
          have kl := hr.sk.light f2
          have kw := sn_w64 hw c i
          show ABr (bif decide ((i : Int) < (N : Int)) then decide ((snN g c i).2.phase = 4) else false) _ _
          refine ⟨fun h => ?_, fun h => ?_⟩
          · have hlt : i < N := by
              by_cases h1 : (i : Int) < (N : Int)
              · omega
              · rw [decide_eq_false h1] at h; exact absurd h (by simp)
            have wi : IntKind.i64.wrap ((i : Int) + 1) = ((i + 1 : Nat) : Int) := wrapP (i := i) (by unfold maxN; omega)
            show ACall _ _ _ _ _ _
            refine call_ret (sStep_spec (snN g c i).1 (snN g c i).2 kl (hr.sk.small f3) (work17 hr.sk.work)) rfl ?_
            show ARound _ _ _ _
            exact ⟨⟨i + 1, hlt⟩, (by dsimp only; omega), [(0, 0), (1, 1)], (by repeat' first | exact .nil | refine .cons _ _ _ ?_ ?_ | exact .int_eq wi | exact .same | exact .c _ _ (.own _ _ rfl) | exact .c _ _ (.ptr _ _ _ _ rfl) | exact .c _ _ (.frz _ _ rfl) | exact .any _), (by exact .old 0 0 _ _ _ rfl rfl (.vars _ _ (LeL_refl rfl)) (.old 1 1 _ _ _ rfl rfl (.vars _ _ (LeL_refl rfl)) .nil)), (by rfl)⟩
          · have hE : ScEnd g c (snN g c i).1 (snN g c i).2 := hr.ends hm (by
              by_cases h1 : (i : Int) < (N : Int)
              · rw [decide_eq_true h1] at h
                left
                exact of_decide_eq_false h
              · right; omega)
            generalize (snN g c i).1 = k at *
            generalize (snN g c i).2 = d at *
            show ACall _ _ _ _ _ _
            refine .mk _ (rUsed7_spec g f2 hw) fun H r ⟨eH, er⟩ _ _ => ⟨.inl rfl, ?_⟩
            subst eH er
            obtain ⟨U, hU⟩ : ∃ U, U = usedH g := ⟨_, rfl⟩
            rw [← hU]
            have hUl : U.length ≤ 512 := by rw [hU]; exact (by
              unfold usedH
              cases mayH g [] with
              | false => simp
              | true => exact Nat.le_trans (List.length_filter_le _ _) (starts_len g.pages))
            show ∃ n, _
            refine ⟨0, ALoop.inv (ι := {j : Nat // j ≤ U.length}) (fun q => ⟨[(2, .c (.d (.rp (g.enc)))), (3, .c (.d (.rp (c.enc)))), (7, .c (.d (.rp (k.enc)))), (8, .c (.d (.rp (d.enc)))), (11, .c (.d (.sl .int (U)))), (12, .int (q.1))], [], 32⟩) (fun q => U.length - q.1) ⟨0, Nat.zero_le _⟩ ?_ ?_⟩
            · exact ⟨[], (by repeat' first | exact .nil | refine .cons _ _ _ ?_ ?_ | exact .same | exact .c _ _ (.own _ _ rfl) | exact .c _ _ (.ptr _ _ _ _ rfl) | exact .c _ _ (.frz _ _ rfl) | exact .any _), (by exact .nil), (by rfl)⟩
            rintro ⟨j, hj⟩
            show ABr (decide ((j : Int) < (U.length : Int))) _ _
            refine ⟨fun h => ?_, fun h => ?_⟩
            · have hjl : j < U.length := by simpa using h
              have wj : IntKind.i64.wrap ((j : Int) + 1) = ((j + 1 : Nat) : Int) := wrapP (i := j) (by unfold maxN; omega)
              have hy := hE.young hmj (U.getD j default)
              show AOb ((0 : Int) ≤ (j : Int) ∧ (j : Int) < (U.length : Int)) _
              refine ⟨by omega, ?_⟩
              show ADCall _ _ _ _ _ _
              refine .mk _ _ (rColour_spec g c (U.getD j default) f2 hw) rfl ?_
              show AOb ((0 : Int) ≤ (j : Int) ∧ (j : Int) < (U.length : Int)) _
              refine ⟨by omega, ?_⟩
              show ADCall _ _ _ _ _ _
              refine .mk _ _ (rColour_spec k d (U.getD j default) kl kw) rfl ?_
              show ABr (decide (atK g c (U.getD j default) = 1)) _ _
              rcases hy with ⟨y1, y2⟩ | ⟨y1, y2⟩
              · rw [decide_eq_true y1]
                show ABr _ _ _
                refine ⟨fun _ => ?_, fun h => absurd h (by decide)⟩
                show AOb ((0 : Int) ≤ (j : Int) ∧ (j : Int) < (U.length : Int)) _
                refine ⟨by omega, ?_⟩
                show ADCall _ _ _ _ _ _
                refine .mk _ _ (tHad_spec g (U.getD j default) f2 hw) rfl ?_
                show ABr (!(decide (atK k d (U.getD j default) = 2) == hadB g (U.getD j default))) _ _
                refine ⟨fun h => absurd h (by rw [y2]; simp), fun _ => ?_⟩
                show ABr (!decide (atK g c (U.getD j default) = 1)) _ _
                refine ⟨fun h => absurd h (by rw [decide_eq_true y1]; decide), fun _ => ?_⟩
                show ABr _ _ _
                refine ⟨fun h => absurd h (by decide), fun _ => ?_⟩
                show ARound _ _ _ _
                exact ⟨⟨j + 1, hjl⟩, (by dsimp only; omega), [], (by repeat' first | exact .nil | refine .cons _ _ _ ?_ ?_ | exact .int_eq wj | exact .same | exact .c _ _ (.own _ _ rfl) | exact .c _ _ (.ptr _ _ _ _ rfl) | exact .c _ _ (.frz _ _ rfl) | exact .any _), (by exact .nil), (by rfl)⟩
              · rw [decide_eq_false y1]
                show ABr _ _ _
                refine ⟨fun h => absurd h (by decide), fun _ => ?_⟩
                show ABr _ _ _
                refine ⟨fun h => absurd h (by decide), fun _ => ?_⟩
                show ABr (!decide (atK g c (U.getD j default) = 1)) _ _
                refine ⟨fun _ => ?_, fun h => absurd h (by rw [decide_eq_false y1]; decide)⟩
                show ABr (!decide (atK k d (U.getD j default) = atK g c (U.getD j default))) _ _
                refine ⟨fun h => absurd h (by rw [decide_eq_true y2]; decide), fun _ => ?_⟩
                show ARound _ _ _ _
                exact ⟨⟨j + 1, hjl⟩, (by dsimp only; omega), [], (by repeat' first | exact .nil | refine .cons _ _ _ ?_ ?_ | exact .int_eq wj | exact .same | exact .c _ _ (.own _ _ rfl) | exact .c _ _ (.ptr _ _ _ _ rfl) | exact .c _ _ (.frz _ _ rfl) | exact .any _), (by exact .nil), (by rfl)⟩
            · show ARet _ _ _
              refine ret_bo (x := decide (d.phase = 5)) (decide_eq_true hE.phase) ⟨rfl, rfl⟩
    · have hc0 : (bif (bif (bif !true then true else !true) then true else !decide (c.phase = 4)) then true else c.major) = true := by
        by_cases hp : c.phase = 4
        · have hj : c.major = true := by
            cases e : c.major with
            | false => exact absurd ⟨hp, e⟩ hpj
            | true => rfl
          rw [hj]; simp
        · rw [decide_eq_false hp]; simp
      refine ⟨fun h => absurd h.1 (by rw [hc0]; decide), fun _ => ?_⟩
      show AOb _ _
      refine ⟨by exact hc0, ?_⟩
      show ABr _ _ _
      refine ⟨fun _ => ?_, fun h => absurd h (by simp)⟩
      show ARet _ _ _
      exact ret_d rfl ⟨rfl, rfl⟩
end Go.Abs
