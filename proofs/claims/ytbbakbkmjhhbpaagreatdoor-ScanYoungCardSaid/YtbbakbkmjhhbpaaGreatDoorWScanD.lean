/- Walks: going through all cards comes to an end. -/
import Derived.Test.YtbbakbkmjhhbpaaGreatDoorWScanC
set_option linter.all false
set_option linter.unusedVariables false
set_option linter.unusedSimpArgs false
namespace Go.Abs
open Go.Proofs Go.Proofs.YtbbakbkmjhhbpaaGreatDoor
set_option maxRecDepth 8000

/-- What holds when all cards were gone through. -/
structure ScEnd (g : Hp) (c : Col) (k : Hp) (d : Col) : Prop where
  sk : SK g k c d
  phase : d.phase = 5
  at_ : d.at_ = 0
  seek : d.seek = 0
  card : d.card = 0
  lo : ∀ u, isO g u → g.cards.getD (crd u).toNat false = true → hasY g u → k.cards.getD (crd u).toNat false = true
  shaded : ∀ u, isO g u → g.cards.getD (crd u).toNat false = true → ∀ f : Int, 1 ≤ f → f ≤ (headH g u).n → youngH g (wordAt g (u + f)) = true → atK k c (wordAt g (u + f)) ≠ 1
  only : ∀ u, atK k c u ≠ atK g c u → atK g c u = 1 ∧ atK k c u = 2 ∧ ∃ x f, isO g x ∧ g.cards.getD (crd x).toNat false = true ∧ 1 ≤ f ∧ f ≤ (headH g x).n ∧ u = wordAt g (x + f)

def ScRun (g : Hp) (c : Col) (i : Nat) (k : Hp) (d : Col) : Prop := (∃ p, ScAt g c i p k d) ∨ ScEnd g c k d

theorem ScRun.sk {g k : Hp} {c d : Col} {i : Nat} (h : ScRun g c i k d) : SK g k c d := by
  rcases h with ⟨p, h⟩ | h
  · exact h.sk
  · exact h.sk

theorem sn_run {g : Hp} {c : Col} (hm : mayH g [] = true) (hp : c.phase = 4) (hc : c.card = 0) (hs : c.seek = 0) (hw : c.work.length ≤ 100) : ∀ i, ScRun g c i (snN g c i).1 (snN g c i).2
  | 0 => .inl ⟨16, .start hp hc hs hw⟩
  | i + 1 => by
    have keep := (scan_step (snN g c i).1 (snN g c i).2).keep
    rcases sn_run hm hp hc hs hw i with ⟨p, h⟩ | h
    · rcases h.step hm with h2 | ⟨h1, h2, h3⟩
      · exact .inl h2
      · right
        have hsk := h.sk.step keep
        refine ⟨hsk, ?_, ?_, ?_, ?_, ?_, ?_, ?_⟩
        · show (scanS (snN g c i).1 (snN g c i).2).2.phase = 5
          rw [h3]
        · show (scanS (snN g c i).1 (snN g c i).2).2.at_ = 0
          rw [h3]
        · show (scanS (snN g c i).1 (snN g c i).2).2.seek = 0
          rw [h3]
        · show (scanS (snN g c i).1 (snN g c i).2).2.card = 0
          rw [h3]
        · intro u hu hgu hy
          show (scanS (snN g c i).1 (snN g c i).2).1.cards.getD _ _ = _
          rw [h2]
          exact h.lo u hu (by have := o_card hu; omega) hgu hy
        · intro u hu hgu f f1 f2 hy
          show atK (scanS (snN g c i).1 (snN g c i).2).1 c _ ≠ 1
          rw [h2]
          exact h.shaded u hu (by have := o_card hu; omega) hgu f f1 f2 hy
        · intro u hu
          have hu : atK (scanS (snN g c i).1 (snN g c i).2).1 c u ≠ atK g c u := hu
          show _ ∧ atK (scanS (snN g c i).1 (snN g c i).2).1 c u = 2 ∧ _
          rw [h2] at hu ⊢
          exact h.only u hu
    · right
      have e : scanS (snN g c i).1 (snN g c i).2 = ((snN g c i).1, (snN g c i).2) := scan_idle fun q => by
        have := h.phase
        omega
      show ScEnd g c (scanS (snN g c i).1 (snN g c i).2).1 (scanS (snN g c i).1 (snN g c i).2).2
      rw [e]
      exact h

theorem ScAt.bound {g k : Hp} {c d : Col} {i : Nat} {p : Int} (h : ScAt g c i p k d) (hm : mayH g [] = true) : (i : Int) < 2 * (g.w.length : Int) + 3 * (g.cards.length : Int) + 1 := by
  obtain ⟨_, _, h3, h4, h5, _⟩ := shapedH_of (mayH_shaped hm)
  have h6 := h.pot
  have h7 := h.p1
  have h8 := h.c1
  split at h6 <;> omega

theorem ScRun.ends {g k : Hp} {c d : Col} {i : Nat} (h : ScRun g c i k d) (hm : mayH g [] = true) (hi : d.phase ≠ 4 ∨ 2 * (g.w.length : Int) + 3 * (g.cards.length : Int) + 1 ≤ (i : Int)) : ScEnd g c k d := by
  rcases h with ⟨p, h⟩ | h
  · exfalso
    have := h.bound hm
    have := h.phase
    omega
  · exact h

theorem SStep.w64 {g k : Hp} {c d : Col} (h : SStep g c k d) (hw : ∀ x ∈ g.w, I64 x) : ∀ x ∈ k.w, I64 x := by
  have hmet : ∀ v, ∀ x ∈ (metS g c v).1.w, I64 x := fun v => by
    rcases met_cases g c v with ⟨_, e⟩ | ⟨_, e⟩ <;> rw [e]
    · exact shade64 hw c v
    · exact hw
  cases h
  case last v hv => exact hmet v
  case more v hv => exact hmet v
  case done =>
    by_cases hm : c.met = true
    · rw [if_pos hm]; exact hw
    · rw [if_neg hm]; exact hw
  all_goals exact hw
theorem sn_w64 {g : Hp} (hw : ∀ x ∈ g.w, I64 x) (c : Col) : ∀ n, ∀ x ∈ (snN g c n).1.w, I64 x
  | 0 => hw
  | n + 1 => (scan_step _ _).w64 (sn_w64 hw c n)

theorem dirty_card {g : Hp} {u : Int} (h : isO g u) : isDirty g u = g.cards.getD (crd u).toNat false := by
  obtain ⟨hm, _, _⟩ := headE_of h.1
  have hb := o_card h
  obtain ⟨_, _, h3, h4, _, _⟩ := shapedH_of (mayH_shaped hm)
  have h0 := cardE_mk (a := u) hm ⟨by omega, by omega⟩
  unfold isDirty crd
  rw [h0, cardOf_yes h0]
  rfl
theorem SK.isO {g k : Hp} {c d : Col} (h : SK g k c d) (u : Int) : isO k u ↔ Abs.isO g u := by unfold Abs.isO; rw [h.headE, h.old]
theorem SK.hasY {g k : Hp} {c d : Col} (h : SK g k c d) {u : Int} (h0 : Abs.headE g u = 0) : hasY k u ↔ Abs.hasY g u := by
  unfold Abs.hasY
  rw [h.n]
  constructor
  · rintro ⟨f, f1, f2, hy⟩
    rw [h.field h0 f1 f2, h.young] at hy
    exact ⟨f, f1, f2, hy⟩
  · rintro ⟨f, f1, f2, hy⟩
    exact ⟨f, f1, f2, by rw [h.field h0 f1 f2, h.young]; exact hy⟩

theorem ScEnd.clean {g k : Hp} {c d : Col} (h : ScEnd g c k d) (hg : cleanN g = 0) : cleanN k = 0 := by
  have h0 := clean_nonneg k
  apply Classical.byContradiction
  intro hne
  obtain ⟨h1, h2, h3⟩ := clean_some (g := k) (by omega)
  have hO := (h.sk.isO _).1 h1
  have hY := (h.sk.hasY hO.1).1 h2
  have hd := clean_zero hg hO hY
  rw [dirty_card hO] at hd
  have := h.lo _ hO hd hY
  rw [dirty_card h1] at h3
  rw [this] at h3
  cases h3

theorem steps17 {n m : Nat} (h : n ≤ 130) (h' : m ≤ 20) : IntKind.i64.wrap (IntKind.i64.wrap (IntKind.i64.wrap (2 * (n : Int)) + IntKind.i64.wrap (3 * (m : Int))) + 1) = ((2 * n + 3 * m + 1 : Nat) : Int) := by
  have e1 : IntKind.i64.wrap (2 * (n : Int)) = 2 * (n : Int) := wrap64 (by omega) (by omega)
  have e2 : IntKind.i64.wrap (3 * (m : Int)) = 3 * (m : Int) := wrap64 (by omega) (by omega)
  have e3 : IntKind.i64.wrap (2 * (n : Int) + 3 * (m : Int)) = 2 * (n : Int) + 3 * (m : Int) := wrap64 (by omega) (by omega)
  have e4 : IntKind.i64.wrap (2 * (n : Int) + 3 * (m : Int) + 1) = 2 * (n : Int) + 3 * (m : Int) + 1 := wrap64 (by omega) (by omega)
  rw [e1, e2, e3, e4]
  omega

set_option maxHeartbeats 4000000 in
theorem ScanEnds_spec (g : Hp) (hw : ∀ x ∈ g.w, I64 x) (c : Col) : Spec X 4 [] [g.tv, c.tv] (Ret [] (.bo true)) := by
  refine spec_go X_ok Tryz.f4 (by kernel_rfl) (by kernel_rfl) (by kernel_rfl) fun hb hH => ⟨rfl, ?_⟩
  show ACall _ _ _ _ _ _
  refine call_ret (awake17_spec) rfl ?_
  show ACall _ _ _ _ _ _
  refine call_ret (few17_spec g c) rfl ?_
  cases hf : few11 g c with
  | false =>
    show AIf _ _ _
    refine ⟨fun h => absurd h.1 (by simp), fun _ => ?_⟩
    show AOb _ _
    refine ⟨by simp, ?_⟩
    show AIf _ _ _
    refine ⟨fun h => absurd h.1 (by simp), fun _ => ?_⟩
    show AOb _ _
    refine ⟨by simp, ?_⟩
    show ABr _ _ _
    refine ⟨fun _ => ?_, fun h => absurd h (by decide)⟩
    show ARet _ _ _
    exact ret_d rfl ⟨rfl, rfl⟩
  | true =>
    obtain ⟨f1, f2, f3, f4, f5⟩ := few17_of hf
    show AIf ((bif (bif !true then true else !true) then true else !decide (c.phase = 4)) = false ∧ True) _ _
    by_cases hp : c.phase = 4
    · rw [decide_eq_true hp]
      show AIf _ _ _
      refine ⟨fun _ => ?_, fun h => absurd ⟨(by rfl), trivial⟩ h⟩
      show ACall _ _ _ _ _ _
      refine call_ret (hHMay0_spec g f2) rfl ?_
      cases hm : mayH g [] with
      | false =>
        show AIf _ _ _
        refine ⟨fun h => absurd h.1 (by simp), fun _ => ?_⟩
        show AOb _ _
        refine ⟨by simp, ?_⟩
        show ABr _ _ _
        refine ⟨fun _ => ?_, fun h => absurd h (by decide)⟩
        show ARet _ _ _
        exact ret_d rfl ⟨rfl, rfl⟩
      | true =>
        show AIf ((bif (bif (bif (bif !true then true else !decide (c.card = 0)) then true else !decide (c.seek = 0)) then true else decide (c.epoch < 0)) then true else decide (c.epoch > 1048576)) = false ∧ True) _ _
        by_cases hx : c.card = 0 ∧ c.seek = 0 ∧ 0 ≤ c.epoch ∧ c.epoch ≤ 1048576
        · obtain ⟨x1, x2, x3, x4⟩ := hx
          have hc : (bif (bif (bif (bif !true then true else !decide (c.card = 0)) then true else !decide (c.seek = 0)) then true else decide (c.epoch < 0)) then true else decide (c.epoch > 1048576)) = false := by
            rw [decide_eq_true x1, decide_eq_true x2, decide_eq_false (by omega), decide_eq_false (by omega)]; rfl
          refine ⟨fun _ => ?_, fun h => absurd ⟨hc, trivial⟩ h⟩
          show ACall _ _ _ _ _ _
          refine call_ret (tClean_spec g f2 hw) rfl ?_
          show ABr (decide (cleanN g > 0)) _ _
          refine ⟨fun h => ?_, fun h => ?_⟩
          · show ARet _ _ _
            exact ret_d rfl ⟨rfl, rfl⟩
          · have hcl : cleanN g = 0 := by have := of_decide_eq_false h; have := clean_nonneg g; omega
            have hW130 : g.w.length ≤ 130 := by have := of_decide_eq_true f1; omega
            have hC20 : g.cards.length ≤ 20 := by have := of_decide_eq_true f1; omega
            have hN := steps17 hW130 hC20
            obtain ⟨N, eN⟩ : ∃ N, N = 2 * g.w.length + 3 * g.cards.length + 1 := ⟨_, rfl⟩
            rw [← eN] at hN
            have hrun := sn_run hm hp x1 x2 f4
            show ∃ n, _
            refine ⟨0, ALoop.inv (ι := {i : Nat // i ≤ N}) (fun q => ⟨[(2, .c (.ptr 0 0 0)), (3, .c (.ptr 1 0 0)), (7, .int ((N : Int))), (8, .int (q.1))], [(0, .vars ((snN g c q.1).1.enc.map .d)), (1, .vars ((snN g c q.1).2.enc.map .d))], 96⟩) (fun q => N - q.1) ⟨0, Nat.zero_le _⟩ ?_ ?_⟩
            · exact ⟨[(32, 0), (64, 1)], (by repeat' first | exact .nil | refine .cons _ _ _ ?_ ?_ | exact .int_eq hN | exact .same | exact .c _ _ (.own _ _ rfl) | exact .c _ _ (.ptr _ _ _ _ rfl) | exact .c _ _ (.frz _ _ rfl) | exact .any _), (by exact .old 0 32 _ _ _ rfl rfl (.vars _ _ (LeL_refl rfl)) (.old 1 64 _ _ _ rfl rfl (.vars _ _ (LeL_refl rfl)) .nil)), (by rfl)⟩
            rintro ⟨i, hi⟩
            have hi : i ≤ N := hi
            have hr := hrun i
            have kl := hr.sk.light f2
            have kw := sn_w64 hw c i
            show ABr (bif decide ((i : Int) < (N : Int)) then decide ((snN g c i).2.phase = 4) else false) _ _
            refine ⟨fun h => ?_, fun h => ?_⟩
            · have hlt : i < N := by
                by_cases h1 : (i : Int) < (N : Int)
                · omega
                · rw [decide_eq_false h1] at h; exact absurd h (by simp)
              have wi : IntKind.i64.wrap ((i : Int) + 1) = ((i + 1 : Nat) : Int) := wrapP (i := i) (by unfold maxN; omega)
              show ACall _ _ _ _ _ _
              refine call_ret (sStep_spec (snN g c i).1 (snN g c i).2 kl (hr.sk.small f3) (work17 hr.sk.work)) rfl ?_
              show ARound _ _ _ _
              exact ⟨⟨i + 1, hlt⟩, (by dsimp only; omega), [(0, 0), (1, 1)], (by repeat' first | exact .nil | refine .cons _ _ _ ?_ ?_ | exact .int_eq wi | exact .same | exact .c _ _ (.own _ _ rfl) | exact .c _ _ (.ptr _ _ _ _ rfl) | exact .c _ _ (.frz _ _ rfl) | exact .any _), (by exact .old 0 0 _ _ _ rfl rfl (.vars _ _ (LeL_refl rfl)) (.old 1 1 _ _ _ rfl rfl (.vars _ _ (LeL_refl rfl)) .nil)), (by rfl)⟩
            · have hE : ScEnd g c (snN g c i).1 (snN g c i).2 := hr.ends hm (by
                by_cases h1 : (i : Int) < (N : Int)
                · rw [decide_eq_true h1] at h
                  left
                  exact of_decide_eq_false h
                · right; omega)
              generalize (snN g c i).1 = k at *
              generalize (snN g c i).2 = d at *
              show AIf ((!decide (d.phase = 5)) = false ∧ True) _ _
              refine ⟨fun _ => ?_, fun h => absurd ⟨by rw [decide_eq_true hE.phase]; rfl, trivial⟩ h⟩
              show ACall _ _ _ _ _ _
              refine call_ret (tClean_spec k kl kw) rfl ?_
              rw [hE.clean hcl]
              show AIf _ _ _
              refine ⟨fun _ => ?_, fun h => absurd ⟨by decide, trivial⟩ h⟩
              show ACall _ _ _ _ _ _
              refine call_ret (hHMay0_spec k kl) rfl ?_
              rw [show mayH k [] = true by rw [hE.sk.may]; exact hm]
              show ABr _ _ _
              refine ⟨fun h => absurd h (by decide), fun _ => ?_⟩
              show ACall _ _ _ _ _ _
              refine call_ret (hUsed_spec k kl) rfl ?_
              obtain ⟨U, hU⟩ : ∃ U, U = usedH k := ⟨_, rfl⟩
              rw [← hU]
              have hUl : U.length ≤ 512 := by rw [hU]; exact (by
                unfold usedH
                cases mayH k [] with
                | false => simp
                | true => exact Nat.le_trans (List.length_filter_le _ _) (starts_len k.pages))
              show ∃ n, _
              refine ⟨0, ALoop.inv (ι := {j : Nat // j ≤ U.length}) (fun q => ⟨[(2, .c (.d (.rp (k.enc)))), (3, .c (.d (.rp (d.enc)))), (9, .c (.d (.sl .int (U)))), (10, .int (q.1))], [], 32⟩) (fun q => U.length - q.1) ⟨0, Nat.zero_le _⟩ ?_ ?_⟩
              · exact ⟨[], (by repeat' first | exact .nil | refine .cons _ _ _ ?_ ?_ | exact .same | exact .c _ _ (.own _ _ rfl) | exact .c _ _ (.ptr _ _ _ _ rfl) | exact .c _ _ (.frz _ _ rfl) | exact .any _), (by exact .nil), (by rfl)⟩
              rintro ⟨j, hj⟩
              show ABr (decide ((j : Int) < (U.length : Int))) _ _
              refine ⟨fun h => ?_, fun h => ?_⟩
              · have hjl : j < U.length := by simpa using h
                have wj : IntKind.i64.wrap ((j : Int) + 1) = ((j + 1 : Nat) : Int) := wrapP (i := j) (by unfold maxN; omega)
                have hmem : U.getD j default ∈ U := by
                  rw [List.getD_eq_getElem?_getD, List.getElem?_eq_getElem hjl]
                  exact List.getElem_mem hjl
                have h0 : headE k (U.getD j default) = 0 := mem_usedH.1 (hU ▸ hmem)
                have hn63 : (headH k (U.getD j default)).n ≤ 63 := by
                  obtain ⟨hm', hu'⟩ := head_may h0
                  unfold Hd.May at hm'
                  rw [if_pos hu'] at hm'
                  exact hm'.1.2
                have hfit := head_fits h0
                have e11 : (1 : Int) = ((0 + 1 : Nat) : Int) := rfl
                show AOb ((0 : Int) ≤ (j : Int) ∧ (j : Int) < (U.length : Int)) _
                refine ⟨by omega, ?_⟩
                show ADCall _ _ _ _ _ _
                refine .mk _ _ (hHead_spec k (U.getD j default) kl) rfl ?_
                show ∃ n, _
                refine ⟨0, ALoop.inv (ι := {f : Nat // (f : Int) ≤ (headH k (U.getD j default)).n}) (fun q => ⟨[(2, .c (.d (.rp (k.enc)))), (3, .c (.d (.rp (d.enc)))), (9, .c (.d (.sl .int (U)))), (10, .int (j)), (11, .c (.d (.rp ((headH k (U.getD j default)).enc)))), (13, .int (((q.1 + 1 : Nat) : Int)))], [], 32⟩) (fun q => (headH k (U.getD j default)).n.toNat - q.1) ⟨0, by show (0 : Int) ≤ _; omega⟩ ?_ ?_⟩
                · exact ⟨[], (by repeat' first | exact .nil | refine .cons _ _ _ ?_ ?_ | exact .int_eq e11 | exact .same | exact .c _ _ (.own _ _ rfl) | exact .c _ _ (.ptr _ _ _ _ rfl) | exact .c _ _ (.frz _ _ rfl) | exact .any _), (by exact .nil), (by rfl)⟩
                rintro ⟨f, hf⟩
                have wf : IntKind.i64.wrap (((f + 1 : Nat) : Int) + 1) = ((f + 1 + 1 : Nat) : Int) := wrapP (i := f + 1) (by have : (f : Int) ≤ _ := hf; unfold maxN; omega)
                show ABr (bif decide (((f + 1 : Nat) : Int) ≤ (headH k (U.getD j default)).n) then (headH k (U.getD j default)).old else false) _ _
                refine ⟨fun h => ?_, fun h => ?_⟩
                · have hfl : ((f + 1 : Nat) : Int) ≤ (headH k (U.getD j default)).n := by
                    by_cases h1 : ((f + 1 : Nat) : Int) ≤ (headH k (U.getD j default)).n
                    · exact h1
                    · rw [decide_eq_false h1] at h; exact absurd h (by simp)
                  have hold : (headH k (U.getD j default)).old = true := by rw [decide_eq_true hfl] at h; exact h
                  obtain ⟨z1, z2, z3⟩ := field_get h0 hfl
                  have hval : k.w.getD (IntKind.i64.wrap (IntKind.i64.wrap (U.getD j default + ((f + 1 : Nat) : Int)) - 16)).toNat default = wordAt k (U.getD j default + ((f + 1 : Nat) : Int)) := by
                    rw [z1]; rfl
                  show AOb ((0 : Int) ≤ (j : Int) ∧ (j : Int) < (U.length : Int)) _
                  refine ⟨by omega, ?_⟩
                  show AOb ((0 : Int) ≤ IntKind.i64.wrap (IntKind.i64.wrap (U.getD j default + ((f + 1 : Nat) : Int)) - 16) ∧ IntKind.i64.wrap (IntKind.i64.wrap (U.getD j default + ((f + 1 : Nat) : Int)) - 16) < (k.w.length : Int)) _
                  refine ⟨by rw [z1]; omega, ?_⟩
                  show ACall _ _ _ _ _ _
                  refine call_ret (rYoung_spec k (k.w.getD (IntKind.i64.wrap (IntKind.i64.wrap (U.getD j default + ((f + 1 : Nat) : Int)) - 16)).toNat default) kl kw) rfl ?_
                  by_cases hy : youngH k (k.w.getD (IntKind.i64.wrap (IntKind.i64.wrap (U.getD j default + ((f + 1 : Nat) : Int)) - 16)).toNat default) = true
                  · have hne : atK k d (k.w.getD (IntKind.i64.wrap (IntKind.i64.wrap (U.getD j default + ((f + 1 : Nat) : Int)) - 16)).toNat default) ≠ 1 := by
                      rw [hval] at hy ⊢
                      have hO := (hE.sk.isO (U.getD j default)).1 ⟨h0, hold⟩
                      rw [hE.sk.n] at hfl
                      rw [hE.sk.field hO.1 (by omega) hfl, hE.sk.young] at hy
                      rw [hE.sk.at, hE.sk.field hO.1 (by omega) hfl]
                      have hd := clean_zero hcl hO ⟨_, by omega, hfl, hy⟩
                      rw [dirty_card hO] at hd
                      exact hE.shaded _ hO hd _ (by omega) hfl hy
                    show AIf _ _ _
                    refine ⟨fun _ => ?_, fun h => absurd ⟨hy, trivial⟩ h⟩
                    show ACall _ _ _ _ _ _
                    refine call_ret (rColour_spec k d (k.w.getD (IntKind.i64.wrap (IntKind.i64.wrap (U.getD j default + ((f + 1 : Nat) : Int)) - 16)).toNat default) kl kw) rfl ?_
                    rw [hy]
                    show ABr (decide (atK k d (k.w.getD (IntKind.i64.wrap (IntKind.i64.wrap (U.getD j default + ((f + 1 : Nat) : Int)) - 16)).toNat default) = 1)) _ _
                    rw [decide_eq_false hne]
                    show ABr _ _ _
                    refine ⟨fun h => absurd h (by decide), fun _ => ?_⟩
                    show ARound _ _ _ _
                    exact ⟨⟨f + 1, hfl⟩, (by dsimp only; omega), [], (by repeat' first | exact .nil | refine .cons _ _ _ ?_ ?_ | exact .int_eq wf | exact .same | exact .c _ _ (.own _ _ rfl) | exact .c _ _ (.ptr _ _ _ _ rfl) | exact .c _ _ (.frz _ _ rfl) | exact .any _), (by exact .nil), (by rfl)⟩
                  · have hyf := Bool.eq_false_iff.2 hy
                    show AIf _ _ _
                    refine ⟨fun h => absurd h.1 hy, fun _ => ?_⟩
                    show AOb _ _
                    refine ⟨by exact hyf, ?_⟩
                    show ABr _ _ _
                    refine ⟨fun h => absurd h (by decide), fun _ => ?_⟩
                    show ARound _ _ _ _
                    exact ⟨⟨f + 1, hfl⟩, (by dsimp only; omega), [], (by repeat' first | exact .nil | refine .cons _ _ _ ?_ ?_ | exact .int_eq wf | exact .same | exact .c _ _ (.own _ _ rfl) | exact .c _ _ (.ptr _ _ _ _ rfl) | exact .c _ _ (.frz _ _ rfl) | exact .any _), (by exact .nil), (by rfl)⟩
                · show ARound _ _ _ _
                  exact ⟨⟨j + 1, hjl⟩, (by dsimp only; omega), [], (by repeat' first | exact .nil | refine .cons _ _ _ ?_ ?_ | exact .int_eq wj | exact .same | exact .c _ _ (.own _ _ rfl) | exact .c _ _ (.ptr _ _ _ _ rfl) | exact .c _ _ (.frz _ _ rfl) | exact .any _), (by exact .nil), (by rfl)⟩
              · show ARet _ _ _
                refine ret_bo (x := bif (bif decide (d.at_ = 0) then decide (d.seek = 0) else false) then decide (d.card = 0) else false) ?_ ⟨rfl, rfl⟩
                rw [decide_eq_true hE.at_, decide_eq_true hE.seek, decide_eq_true hE.card]
                rfl
        · have hc : (bif (bif (bif (bif !true then true else !decide (c.card = 0)) then true else !decide (c.seek = 0)) then true else decide (c.epoch < 0)) then true else decide (c.epoch > 1048576)) = true := by
            simp; omega
          refine ⟨fun h => absurd (hc.symm.trans h.1) (by decide), fun _ => ?_⟩
          show AOb _ _
          refine ⟨by exact hc, ?_⟩
          show ABr _ _ _
          refine ⟨fun _ => ?_, fun h => absurd h (by decide)⟩
          show ARet _ _ _
          exact ret_d rfl ⟨rfl, rfl⟩
    · rw [decide_eq_false hp]
      show AIf _ _ _
      refine ⟨fun h => absurd h.1 (by simp [hp]), fun _ => ?_⟩
      show AOb _ _
      refine ⟨by simp [hp], ?_⟩
      show AIf _ _ _
      refine ⟨fun h => absurd h.1 (by simp), fun _ => ?_⟩
      show AOb _ _
      refine ⟨by simp, ?_⟩
      show ABr _ _ _
      refine ⟨fun _ => ?_, fun h => absurd h (by decide)⟩
      show ARet _ _ _
      exact ret_d rfl ⟨rfl, rfl⟩
end Go.Abs
