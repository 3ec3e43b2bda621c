/- Walks: just what is led to is black in the end. -/
import Derived.Test.YtfoeojkifbmddaaGreatDoorWTraceC
set_option linter.all false
set_option linter.unusedVariables false
set_option linter.unusedSimpArgs false
namespace Go.Abs
open Go.Proofs Go.Proofs.YtfoeojkifbmddaaGreatDoor
set_option maxRecDepth 8000

/-- What grey ones lead to. -/
inductive Rch (g : Hp) (c : Col) : Int → Prop
  | grey (u : Int) (h : atK g c u = 2) : Rch g c u
  | step (u f : Int) (h : Rch g c u) (h1 : 1 ≤ f) (h2 : f ≤ (headH g u).n) (h3 : atK g c (wordAt g (u + f)) = 1) : Rch g c (wordAt g (u + f))

theorem Rch.col {g : Hp} {c : Col} {u : Int} (h : Rch g c u) : atK g c u = 1 ∨ atK g c u = 2 := by
  cases h
  case grey h => exact .inr h
  case step h3 => exact .inl h3

structure RSet (g : Hp) (c : Col) (R : List Int) : Prop where
  grey : ∀ u, atK g c u = 2 → u ∈ R
  rch : ∀ u ∈ R, Rch g c u
  nodup : R.Nodup

def closedU (g : Hp) (c : Col) (R : List Int) (u : Int) : Prop := ∀ f : Int, 1 ≤ f → f ≤ (headH g u).n → atK g c (wordAt g (u + f)) = 1 → wordAt g (u + f) ∈ R

theorem nodup_sub {l m : List Int} (hl : l.Nodup) (h : ∀ x ∈ l, x ∈ m) : l.length ≤ m.length := by
  induction l generalizing m with
  | nil => exact Nat.zero_le _
  | cons x r ih =>
    rw [List.nodup_cons] at hl
    have hx := h x List.mem_cons_self
    have h1 : r.length ≤ (m.erase x).length := ih hl.2 fun y hy => by
      have hne : y ≠ x := fun e => hl.1 (e ▸ hy)
      exact (List.mem_erase_of_ne hne).2 (h y (List.mem_cons_of_mem _ hy))
    rw [List.length_erase_of_mem hx] at h1
    have : 1 ≤ m.length := by
      cases m with
      | nil => cases hx
      | cons => simp
    rw [List.length_cons]
    omega

theorem RSet.len {g : Hp} {c : Col} {R : List Int} (h : RSet g c R) : R.length ≤ 512 :=
  Nat.le_trans (nodup_sub h.nodup fun u hu => by
    have := (h.rch u hu).col
    exact mem_usedH.2 (atK_ne (c := c) (by omega))) (used_len g)

theorem RSet.start (g : Hp) (c : Col) : RSet g c (greyH g c) :=
  ⟨fun u hu => mem_grey.2 hu, fun u hu => .grey u (mem_grey.1 hu), (used_nodup g).filter _⟩

theorem RSet.add {g : Hp} {c : Col} {R : List Int} (h : RSet g c R) {v : Int} (hv : Rch g c v) (hn : R.contains v = false) : RSet g c (R ++ [v]) := by
  refine ⟨fun u hu => List.mem_append_left _ (h.grey u hu), fun u hu => ?_, ?_⟩
  · rcases List.mem_append.1 hu with hu | hu
    · exact h.rch u hu
    · rw [List.mem_singleton.1 hu]; exact hv
  · rw [List.nodup_append]
    refine ⟨h.nodup, by simp, fun a ha b hb => ?_⟩
    rw [List.mem_singleton.1 hb]
    rintro rfl
    have := List.contains_iff_mem.2 ha
    rw [hn] at this
    cases this

/-- What a step changes. -/
theorem TStep.only {k m : Hp} {d e : Col} (h : TStep k d m e) (u : Int) (hu : atK m d u ≠ atK k d u) :
    atK k d u = 2 ∨ (atK k d u = 1 ∧ ∃ a f, atK k d a = 2 ∧ 1 ≤ f ∧ f ≤ (headH k a).n ∧ u = wordAt k (a + f)) := by
  have wf : ∀ v, atK k d d.at_ = 2 → 0 ≤ d.field_ → d.field_ + 1 ≤ (headH k d.at_).n → v = wordOf k (d.at_ + 1 + d.field_) → v = wordAt k (d.at_ + (d.field_ + 1)) := by
    intro v hg h0 h1 hv
    rw [hv, show d.at_ + 1 + d.field_ = d.at_ + (d.field_ + 1) by omega]
    exact wordOf_field (grey_adr hg).1 (by omega) h1
  cases h
  case last hm hp ha h0 h v hv =>
    have hg : atK k d d.at_ = 2 := greyN_pos.1 (by omega)
    have hN : greyN k d d.at_ = (headH k d.at_).n := if_pos hg
    rw [atK_black] at hu
    by_cases e1 : u = d.at_ ∧ atK (shadeG k d v) d d.at_ = 2
    · left; rw [e1.1]; exact hg
    · rw [if_neg e1, atK_shade] at hu
      by_cases e2 : u = v ∧ atK k d v = 1
      · right
        refine ⟨by rw [e2.1]; exact e2.2, d.at_, d.field_ + 1, hg, by omega, by omega, ?_⟩
        rw [e2.1]
        exact wf v hg h0 (by omega) hv
      · rw [if_neg e2] at hu; exact absurd rfl hu
  case more hm hp ha h0 h v hv =>
    have hg : atK k d d.at_ = 2 := greyN_pos.1 (by omega)
    have hN : greyN k d d.at_ = (headH k d.at_).n := if_pos hg
    rw [atK_shade] at hu
    by_cases e2 : u = v ∧ atK k d v = 1
    · right
      refine ⟨by rw [e2.1]; exact e2.2, d.at_, d.field_ + 1, hg, by omega, by omega, ?_⟩
      rw [e2.1]
      exact wf v hg h0 (by omega) hv
    · rw [if_neg e2] at hu; exact absurd rfl hu
  all_goals exact absurd rfl hu

structure ReInv (g : Hp) (c : Col) (R : List Int) (k : Hp) : Prop where
  same : ∀ u, u ∉ R → atK k c u = atK g c u
  grey : ∀ u, atK k c u = 2 → u ∈ R

theorem ReInv.step {P : Int → Prop} {g k : Hp} {c d : Col} {i : Nat} {R : List Int} (h : ReInv g c R k) (hr : Run P g c i k d) (hc : ∀ u ∈ R, closedU g c R u) : ReInv g c R (traceS k d).1 := by
  have hs := trace_step k d
  have key : ∀ u, atK (traceS k d).1 c u ≠ atK k c u → u ∈ R := by
    intro u hu
    rw [← hr.at, ← hr.at k] at hu
    rcases hs.only u hu with h2 | ⟨h1, a, f, ha, f1, f2, e⟩
    · rw [hr.at] at h2
      exact h.grey u h2
    · rw [hr.at] at h1 ha
      have haR := h.grey a ha
      have h0 : headE g a = 0 := by rw [← hr.marks.headE]; exact atK_ne (c := c) (by omega)
      rw [marks_n hr.marks] at f2
      rw [hr.marks.field h0 f1 f2] at e
      apply Classical.byContradiction
      intro hn
      rw [h.same u hn] at h1
      rw [e] at h1 hn
      exact hn (hc a haR f f1 f2 h1)
  refine ⟨fun u hn => ?_, fun u hu => ?_⟩
  · rw [← h.same u hn]
    apply Classical.byContradiction
    intro hne
    exact hn (key u hne)
  · by_cases e : atK (traceS k d).1 c u = atK k c u
    · exact h.grey u (by rw [← e]; exact hu)
    · exact key u e

theorem reach_black {g k : Hp} {c d : Col} {i : Nat} (hr : Run (fun u => atK g c u ≠ 3) g c i k d) (hd : d.phase = 6) {u : Int} (h : Rch g c u) : atK k c u = 3 := by
  have hno : ∀ u, atK k c u ≠ 2 := fun u hu => by
    have hg := (hr.over hd).1
    have : u ∈ greyH k d := mem_grey.2 (by rw [hr.at]; exact hu)
    rw [hg] at this
    cases this
  induction h with
  | grey u h =>
    have h1 := hr.rises.le u
    have h2 := (atK_nonneg k c u).2
    have h3 := hno u
    omega
  | step u f h h1 h2 h3 ih =>
    have hc := h.col
    have h0 : headE g u = 0 := atK_ne (c := c) (by omega)
    have hl := hr.led u (by omega) (by rw [hr.at]; exact ih) f h1 (by rw [marks_n hr.marks]; exact h2)
    rw [hr.at, hr.marks.field h0 h1 h2] at hl
    have h4 := hr.rises.le (wordAt g (u + f))
    have h5 := (atK_nonneg k c (wordAt g (u + f))).2
    have h6 := hno (wordAt g (u + f))
    omega

theorem getD_app {R : List Int} {i : Nat} (h : i < R.length) (v : Int) : (R ++ [v]).getD i default = R.getD i default := by
  rw [List.getD_eq_getElem?_getD, List.getElem?_append_left h, List.getD_eq_getElem?_getD]

theorem closedU.mono {g : Hp} {c : Col} {R S : List Int} {u : Int} (h : closedU g c R u) (hs : ∀ x ∈ R, x ∈ S) : closedU g c S u := fun f h1 h2 h3 => hs _ (h f h1 h2 h3)

/-- What the rounds over fields keep. -/
structure ReF (g : Hp) (c : Col) (m i : Nat) (u : Int) (f : Nat) (R : List Int) : Prop where
  set : RSet g c R
  len : m ≤ R.length
  n : (f : Int) ≤ (headH g u).n
  fore : ∀ j, j < i → closedU g c R (R.getD j default)
  here : ∀ f', f' < f → atK g c (wordAt g (u + ((f' + 1 : Nat) : Int))) = 1 → wordAt g (u + ((f' + 1 : Nat) : Int)) ∈ R
  at_ : R.getD i default = u

theorem ReF.skip {g : Hp} {c : Col} {m i : Nat} {u : Int} {f : Nat} {R : List Int} (h : ReF g c m i u f R) (hf : ((f + 1 : Nat) : Int) ≤ (headH g u).n) (hn : atK g c (wordAt g (u + ((f + 1 : Nat) : Int))) = 1 → wordAt g (u + ((f + 1 : Nat) : Int)) ∈ R) : ReF g c m i u (f + 1) R := by
  refine ⟨h.set, h.len, hf, h.fore, fun f' hf' => ?_, h.at_⟩
  by_cases e : f' = f
  · rw [e]; exact hn
  · exact h.here f' (by omega)

theorem ReF.add {g : Hp} {c : Col} {m i : Nat} {u : Int} {f : Nat} {R : List Int} (h : ReF g c m i u f R) (him : i < m) (hf : ((f + 1 : Nat) : Int) ≤ (headH g u).n) (h1 : atK g c (wordAt g (u + ((f + 1 : Nat) : Int))) = 1) (hn : R.contains (wordAt g (u + ((f + 1 : Nat) : Int))) = false) : ReF g c m i u (f + 1) (R ++ [wordAt g (u + ((f + 1 : Nat) : Int))]) := by
  have hiR : i < R.length := Nat.lt_of_lt_of_le him h.len
  have hu : u ∈ R := by
    rw [← h.at_, List.getD_eq_getElem?_getD, List.getElem?_eq_getElem hiR]
    exact List.getElem_mem hiR
  have hsub : ∀ x ∈ R, x ∈ R ++ [wordAt g (u + ((f + 1 : Nat) : Int))] := fun x hx => List.mem_append_left _ hx
  refine ⟨h.set.add (.step u _ (h.set.rch u hu) (by omega) hf h1) hn, by rw [List.length_append]; have := h.len; omega, hf, fun j hj => ?_, fun f' hf' h3 => ?_, ?_⟩
  · rw [getD_app (by omega)]
    exact (h.fore j hj).mono hsub
  · by_cases e : f' = f
    · rw [e]; exact List.mem_append_right _ (List.mem_singleton.2 rfl)
    · exact hsub _ (h.here f' (by omega) h3)
  · rw [getD_app hiR]; exact h.at_

theorem ReF.done {g : Hp} {c : Col} {m i : Nat} {u : Int} {f : Nat} {R : List Int} (h : ReF g c m i u f R) (hf : ¬ ((f + 1 : Nat) : Int) ≤ (headH g u).n) : ∀ j, j < i + 1 → closedU g c R (R.getD j default) := by
  intro j hj
  by_cases e : j = i
  · rw [e, h.at_]
    intro f' h1 h2 h3
    have := h.here (f' - 1).toNat (by omega)
    rw [show (((f' - 1).toNat + 1 : Nat) : Int) = f' by omega] at this
    exact this h3
  · exact h.fore j (by omega)

/-- What the rounds over those that are reached keep. -/
structure ReI (g : Hp) (c : Col) (m i : Nat) (R : List Int) : Prop where
  set : RSet g c R
  len : m ≤ R.length
  ile : i ≤ m
  fore : ∀ j, j < i → closedU g c R (R.getD j default)

theorem closed_all {g : Hp} {c : Col} {R : List Int} {m : Nat} (h : ∀ j, j < m → closedU g c R (R.getD j default)) (hm : R.length = m) : ∀ u ∈ R, closedU g c R u := by
  intro u hu
  obtain ⟨j, hj, e⟩ := List.getElem_of_mem hu
  have := h j (by omega)
  rw [List.getD_eq_getElem?_getD, List.getElem?_eq_getElem hj] at this
  rw [← e]
  exact this

set_option maxHeartbeats 4000000 in
theorem TraceReach_spec (g : Hp) (hw : ∀ x ∈ g.w, I64 x) (c : Col) : Spec X 6 [] [g.tv, c.tv] (Ret [] (.bo true)) := by
  refine spec_go X_ok Tryz.f6 (by kernel_rfl) (by kernel_rfl) (by kernel_rfl) fun hb hH => ⟨rfl, ?_⟩
  show ACall _ _ _ _ _ _
  refine call_ret (awake16_spec) rfl ?_
  show ACall _ _ _ _ _ _
  refine call_ret (few16_spec g c) rfl ?_
  cases hf : few11 g c with
  | false =>
    show AIf _ _ _
    refine ⟨fun h => absurd h.1 (by simp), fun _ => ?_⟩
    show AOb _ _
    refine ⟨by simp, ?_⟩
    show AIf _ _ _
    refine ⟨fun h => absurd h.1 (by decide), fun _ => ?_⟩
    show AOb _ _
    refine ⟨by decide, ?_⟩
    show ABr _ _ _
    refine ⟨fun _ => ?_, fun h => absurd h (by simp)⟩
    show ARet _ _ _
    exact ret_d rfl ⟨rfl, rfl⟩
  | true =>
    obtain ⟨f1, f2, f3, f4, f5⟩ := few16_of hf
    have f6 : c.work.length ≤ maxN := by unfold maxN; omega
    show AIf ((bif (bif (bif !true then true else !true) then true else !decide (c.phase = 5)) then true else !c.major) = false ∧ True) _ _
    by_cases hpj : c.phase = 5 ∧ c.major = true
    · obtain ⟨hp, hj⟩ := hpj
      have hcc : (bif (bif (bif !true then true else !true) then true else !decide (c.phase = 5)) then true else !c.major) = false := by rw [decide_eq_true hp, hj]; rfl
      refine ⟨fun _ => ?_, fun h => absurd ⟨hcc, trivial⟩ h⟩
      show ACall _ _ _ _ _ _
      refine call_ret (hHMay0_spec g f2) rfl ?_
      cases hm : mayH g [] with
      | false =>
        show AIf _ _ _
        refine ⟨fun h => absurd h.1 (by decide), fun _ => ?_⟩
        show AOb _ _
        refine ⟨by decide, ?_⟩
        show ABr _ _ _
        refine ⟨fun _ => ?_, fun h => absurd h (by simp)⟩
        show ARet _ _ _
        exact ret_d rfl ⟨rfl, rfl⟩
      | true =>
        show AIf _ _ _
        refine ⟨fun _ => ?_, fun h => absurd ⟨(by rfl), trivial⟩ h⟩
        show ACall _ _ _ _ _ _
        refine call_ret (tKnown_spec g c f2 hw f6) rfl ?_
        cases hk : knownB g c with
        | false =>
          show ABr _ _ _
          refine ⟨fun _ => ?_, fun h => absurd h (by simp)⟩
          show ARet _ _ _
          exact ret_d rfl ⟨rfl, rfl⟩
        | true =>
          show ABr (bif (bif (bif (bif false then true else decide ((c.work.length : Int) > 4)) then true else !decide (c.at_ = 0)) then true else !decide (c.field_ = 0)) then true else !decide (c.seek = 0)) _ _
          refine ⟨fun h => ?_, fun h => ?_⟩
          · show ARet _ _ _
            exact ret_d rfl ⟨rfl, rfl⟩
          · have hc : c.work.length ≤ 4 ∧ c.at_ = 0 ∧ c.seek = 0 := by simp at h; omega
            obtain ⟨c1, c2, c3⟩ := hc
            have hwl : g.w.length ≤ 130 := by have := of_decide_eq_true f1; omega
            show ACall _ _ _ _ _ _
            refine .mk _ (rGrey11_spec g c f2 hw) fun H r ⟨eH, er⟩ _ _ => ⟨.inl rfl, ?_⟩
            subst eH er
            show ∃ n, _
            refine ⟨0, ALoop.inv (ι := {R : List Int // RSet g c R}) (fun q => ⟨[(2, .c (.d (.rp (g.enc)))), (3, .c (.d (.rp (c.enc)))), (7, .c (.own 1))], [(1, .data .int q.1)], 64⟩) (fun q => 512 - q.1.length) ⟨greyH g c, .start g c⟩ ?_ ?_⟩
            · exact ⟨[(1920, 1)], (by repeat' first | exact .nil | refine .cons _ _ _ ?_ ?_ | exact .same | exact .c _ _ (.own _ _ rfl) | exact .c _ _ (.ptr _ _ _ _ rfl) | exact .c _ _ (.frz _ _ rfl) | exact .any _), (by exact .old 1 1920 _ _ _ rfl rfl (.data_eq rfl) .nil), (by rfl)⟩
            rintro ⟨R0, hR0⟩
            have hR0 : RSet g c R0 := hR0
            have hl0 := hR0.len
            show ∃ n, _
            refine ⟨0, ALoop.inv (ι := {q : Nat × List Int // ReI g c R0.length q.1 q.2}) (fun q => ⟨[(2, .c (.d (.rp (g.enc)))), (3, .c (.d (.rp (c.enc)))), (7, .c (.own 1)), (8, .int ((R0.length : Int))), (9, .int (q.1.1))], [(1, .data .int q.1.2)], 64⟩) (fun q => R0.length - q.1.1) ⟨(0, R0), hR0, Nat.le_refl _, Nat.zero_le _, fun j hj => absurd hj (Nat.not_lt_zero j)⟩ ?_ ?_⟩
            · exact ⟨[(1, 1)], (by repeat' first | exact .nil | refine .cons _ _ _ ?_ ?_ | exact .same | exact .c _ _ (.own _ _ rfl) | exact .c _ _ (.ptr _ _ _ _ rfl) | exact .c _ _ (.frz _ _ rfl) | exact .any _), (by exact .old 1 1 _ _ _ rfl rfl (.data_eq rfl) .nil), (by rfl)⟩
            rintro ⟨⟨i, R⟩, hI⟩
            have hI : ReI g c R0.length i R := hI
            obtain ⟨hR, hlen, hile, hfore⟩ := hI
            have hRl := hR.len
            show ABr (decide ((i : Int) < (R0.length : Int))) _ _
            refine ⟨fun h => ?_, fun h => ?_⟩
            · have hlt : i < R0.length := by have := of_decide_eq_true h; omega
              have wi : IntKind.i64.wrap ((i : Int) + 1) = ((i + 1 : Nat) : Int) := wrapP (i := i) (by unfold maxN; omega)
              show AOb ((0 : Int) ≤ (i : Int) ∧ (i : Int) < (R.length : Int)) _
              refine ⟨by omega, ?_⟩
              show AOb (i < R.length) _
              refine ⟨by omega, ?_⟩
              show ADCall _ _ _ _ _ _
              refine .mk _ _ (rHead7_spec g (R.getD i default) f2 hw) rfl ?_
              obtain ⟨u, hu⟩ : ∃ u, u = R.getD i default := ⟨_, rfl⟩
              rw [← hu]
              have huR : u ∈ R := by
                rw [hu, List.getD_eq_getElem?_getD, List.getElem?_eq_getElem (by omega)]
                exact List.getElem_mem _
              have h0 : headE g u = 0 := by
                have := (hR.rch u huR).col
                exact atK_ne (c := c) (by omega)
              have hfit := head_fits h0
              have hn63 : (headH g u).n ≤ 63 := by
                obtain ⟨hm', hu'⟩ := head_may h0
                unfold Hd.May at hm'
                rw [if_pos hu'] at hm'
                exact hm'.1.2
              have e11 : (1 : Int) = ((0 + 1 : Nat) : Int) := rfl
              show ∃ n, _
              refine ⟨0, ALoop.inv (ι := {q : Nat × List Int // ReF g c R0.length i u q.1 q.2}) (fun q => ⟨[(2, .c (.d (.rp (g.enc)))), (3, .c (.d (.rp (c.enc)))), (7, .c (.own 1)), (8, .int ((R0.length : Int))), (9, .int (i)), (10, .c (.d (.rp ((headH g u).enc)))), (12, .int (((q.1.1 + 1 : Nat) : Int)))], [(1, .data .int q.1.2)], 64⟩) (fun q => (headH g u).n.toNat - q.1.1) ⟨(0, R), hR, hlen, by show (0 : Int) ≤ _; omega, hfore, fun f' hf' => absurd hf' (Nat.not_lt_zero f'), hu.symm⟩ ?_ ?_⟩
              · exact ⟨[(1, 1)], (by repeat' first | exact .nil | refine .cons _ _ _ ?_ ?_ | exact .int_eq e11 | exact .same | exact .c _ _ (.own _ _ rfl) | exact .c _ _ (.ptr _ _ _ _ rfl) | exact .c _ _ (.frz _ _ rfl) | exact .any _), (by exact .old 1 1 _ _ _ rfl rfl (.data_eq rfl) .nil), (by rfl)⟩
              rintro ⟨⟨f, S⟩, hF⟩
              have hF : ReF g c R0.length i u f S := hF
              have hSl := hF.set.len
              have hSm := hF.len
              have hfn := hF.n
              have wf : IntKind.i64.wrap (((f + 1 : Nat) : Int) + 1) = ((f + 1 + 1 : Nat) : Int) := wrapP (i := f + 1) (by unfold maxN; omega)
              show ABr (decide (((f + 1 : Nat) : Int) ≤ (headH g u).n)) _ _
              refine ⟨fun h => ?_, fun h => ?_⟩
              · have hfl := of_decide_eq_true h
                obtain ⟨z1, z2, z3⟩ := field_get h0 hfl
                have hval : g.w.getD (IntKind.i64.wrap (IntKind.i64.wrap (S.getD i default + ((f + 1 : Nat) : Int)) - 16)).toNat default = wordAt g (u + ((f + 1 : Nat) : Int)) := by
                  rw [hF.at_, z1]; rfl
                show AOb ((0 : Int) ≤ (i : Int) ∧ (i : Int) < (S.length : Int)) _
                refine ⟨by omega, ?_⟩
                show AOb (i < S.length) _
                refine ⟨by omega, ?_⟩
                show AOb ((0 : Int) ≤ IntKind.i64.wrap (IntKind.i64.wrap (S.getD i default + ((f + 1 : Nat) : Int)) - 16) ∧ IntKind.i64.wrap (IntKind.i64.wrap (S.getD i default + ((f + 1 : Nat) : Int)) - 16) < (g.w.length : Int)) _
                refine ⟨by rw [hF.at_, z1]; omega, ?_⟩
                show ACall _ _ _ _ _ _
                refine call_ret (rColour_spec g c (g.w.getD (IntKind.i64.wrap (IntKind.i64.wrap (S.getD i default + ((f + 1 : Nat) : Int)) - 16)).toNat default) f2 hw) rfl ?_
                show AIf (decide (atK g c (g.w.getD (IntKind.i64.wrap (IntKind.i64.wrap (S.getD i default + ((f + 1 : Nat) : Int)) - 16)).toNat default) = 1) = true ∧ True) _ _
                by_cases h1 : atK g c (wordAt g (u + ((f + 1 : Nat) : Int))) = 1
                · refine ⟨fun _ => ?_, fun h => absurd ⟨by rw [hval]; exact decide_eq_true h1, trivial⟩ h⟩
                  show ACall _ _ _ _ _ _
                  refine call_ret (tIn_spec S (g.w.getD (IntKind.i64.wrap (IntKind.i64.wrap (S.getD i default + ((f + 1 : Nat) : Int)) - 16)).toNat default)) rfl ?_
                  show ABr (!S.contains (g.w.getD (IntKind.i64.wrap (IntKind.i64.wrap (S.getD i default + ((f + 1 : Nat) : Int)) - 16)).toNat default)) _ _
                  refine ⟨fun h => ?_, fun h => ?_⟩
                  · have hn : S.contains (wordAt g (u + ((f + 1 : Nat) : Int))) = false := by
                      rw [hval] at h
                      cases e : S.contains (wordAt g (u + ((f + 1 : Nat) : Int))) with
                      | false => rfl
                      | true => rw [e] at h; exact absurd h (by decide)
                    have hadd := hF.add hlt hfl h1 hn
                    have e9 : S ++ [(g.w.getD (IntKind.i64.wrap (IntKind.i64.wrap (S.getD i default + ((f + 1 : Nat) : Int)) - 16)).toNat default)] = S ++ [(wordAt g (u + ((f + 1 : Nat) : Int)))] := by rw [hval]
                    show AOb (S.length + 1 ≤ most) _
                    refine ⟨by unfold most; omega, ?_⟩
                    show ARound _ _ _ _
                    exact ⟨⟨(f + 1, S ++ [(wordAt g (u + ((f + 1 : Nat) : Int)))]), hadd⟩, (by dsimp only; omega), [(_, 1)], (by repeat' first | exact .nil | refine .cons _ _ _ ?_ ?_ | exact .c _ _ (.own1 _ _) | exact .int_eq wf | exact .same | exact .c _ _ (.own _ _ rfl) | exact .c _ _ (.ptr _ _ _ _ rfl) | exact .c _ _ (.frz _ _ rfl) | exact .any _), (by exact .old 1 _ _ _ _ rfl rfl (.data_eq e9) .nil), (by rfl)⟩
                  · have hn : (wordAt g (u + ((f + 1 : Nat) : Int))) ∈ S := by
                      rw [hval] at h
                      cases e : S.contains (wordAt g (u + ((f + 1 : Nat) : Int))) with
                      | true => exact List.contains_iff_mem.1 e
                      | false => rw [e] at h; exact absurd h (by decide)
                    have hskip := hF.skip hfl fun _ => hn
                    show ARound _ _ _ _
                    exact ⟨⟨(f + 1, S), hskip⟩, (by dsimp only; omega), [(1, 1)], (by repeat' first | exact .nil | refine .cons _ _ _ ?_ ?_ | exact .int_eq wf | exact .same | exact .c _ _ (.own _ _ rfl) | exact .c _ _ (.ptr _ _ _ _ rfl) | exact .c _ _ (.frz _ _ rfl) | exact .any _), (by exact .old 1 1 _ _ _ rfl rfl (.data_eq rfl) .nil), (by rfl)⟩
                · refine ⟨fun h => absurd (of_decide_eq_true (by have h9 := h.1; rw [hval] at h9; exact h9)) h1, fun _ => ?_⟩
                  show AOb _ _
                  refine ⟨by rw [hval]; exact decide_eq_false h1, ?_⟩
                  show ABr _ _ _
                  refine ⟨fun h => absurd h (by decide), fun _ => ?_⟩
                  have hskip := hF.skip hfl fun h9 => absurd h9 h1
                  show ARound _ _ _ _
                  exact ⟨⟨(f + 1, S), hskip⟩, (by dsimp only; omega), [(1, 1)], (by repeat' first | exact .nil | refine .cons _ _ _ ?_ ?_ | exact .int_eq wf | exact .same | exact .c _ _ (.own _ _ rfl) | exact .c _ _ (.ptr _ _ _ _ rfl) | exact .c _ _ (.frz _ _ rfl) | exact .any _), (by exact .old 1 1 _ _ _ rfl rfl (.data_eq rfl) .nil), (by rfl)⟩
              · have hfl := of_decide_eq_false h
                have hdone := hF.done hfl
                show ARound _ _ _ _
                exact ⟨⟨(i + 1, S), hF.set, hF.len, hlt, hdone⟩, (by dsimp only; omega), [(1, 1)], (by repeat' first | exact .nil | refine .cons _ _ _ ?_ ?_ | exact .int_eq wi | exact .same | exact .c _ _ (.own _ _ rfl) | exact .c _ _ (.ptr _ _ _ _ rfl) | exact .c _ _ (.frz _ _ rfl) | exact .any _), (by exact .old 1 1 _ _ _ rfl rfl (.data_eq rfl) .nil), (by rfl)⟩
            · have hie : i = R0.length := by have := of_decide_eq_false h; omega
              show ABr (decide ((R.length : Int) = (R0.length : Int))) _ _
              refine ⟨fun h => ?_, fun h => ?_⟩
              · have hRR : R.length = R0.length := by have := of_decide_eq_true h; omega
                rw [hie] at hfore
                have hclosed := closed_all hfore hRR
                have hN := steps16 hwl
                obtain ⟨N, eN⟩ : ∃ N : Nat, (N : Int) = (g.w.length : Int) * (g.w.length : Int) / 4 + 40 := ⟨((g.w.length : Int) * (g.w.length : Int) / 4 + 40).toNat, by
                  have : 0 ≤ (g.w.length : Int) * (g.w.length : Int) := Int.mul_nonneg (by omega) (by omega)
                  omega⟩
                rw [← eN] at hN
                have r0 : Run (fun u => atK g c u ≠ 3) g c 0 g c := Run.start hp hk c2 f4 (fun u hu h3 => absurd h3 hu)
                have i0 : ReInv g c R g := ⟨fun _ _ => rfl, hR.grey⟩
                show AOb _ _
                refine ⟨by decide, ?_⟩
                show ∃ n, _
                refine ⟨0, ALoop.inv (ι := {n : Nat // n ≤ N ∧ Run (fun u => atK g c u ≠ 3) g c n (trN g c n).1 (trN g c n).2 ∧ ReInv g c R (trN g c n).1}) (fun q => ⟨[(2, .c (.d (.rp (g.enc)))), (3, .c (.d (.rp (c.enc)))), (7, .c (.d (.sl .int (R)))), (14, .c (.ptr 0 0 0)), (15, .c (.ptr 1 0 0)), (16, .int ((N : Int))), (17, .int (q.1))], [(0, .vars ((trN g c q.1).1.enc.map .d)), (1, .vars ((trN g c q.1).2.enc.map .d))], 96⟩) (fun q => N - q.1) ⟨0, Nat.zero_le _, r0, i0⟩ ?_ ?_⟩
                · exact ⟨[(320, 0), (416, 1)], (by repeat' first | exact .nil | refine .cons _ _ _ ?_ ?_ | exact .int_eq hN | exact .same | exact .c _ _ (.own _ _ rfl) | exact .c _ _ (.ptr _ _ _ _ rfl) | exact .c _ _ (.frz _ _ rfl) | exact .any _), (by exact .old 0 320 _ _ _ rfl rfl (.vars _ _ (LeL_refl rfl)) (.old 1 416 _ _ _ rfl rfl (.vars _ _ (LeL_refl rfl)) .nil)), (by rfl)⟩
                rintro ⟨n, hn, hr, hri⟩
                have hn : n ≤ N := hn
                have hr : Run (fun u => atK g c u ≠ 3) g c n (trN g c n).1 (trN g c n).2 := hr
                have hri : ReInv g c R (trN g c n).1 := hri
                have kl := hr.marks.light f2
                have kw : ∀ x ∈ (trN g c n).1.w, I64 x := trN_w64 hw c n
                show ABr (bif decide ((n : Int) < (N : Int)) then decide ((trN g c n).2.phase = 5) else false) _ _
                refine ⟨fun h => ?_, fun h => ?_⟩
                · have hlt : n < N := by
                    by_cases h1 : (n : Int) < (N : Int)
                    · omega
                    · rw [decide_eq_false h1] at h; exact absurd h (by simp)
                  have hp5 : (trN g c n).2.phase = 5 := by
                    rw [decide_eq_true (show (n : Int) < (N : Int) by omega)] at h
                    exact of_decide_eq_true h
                  have wn : IntKind.i64.wrap ((n : Int) + 1) = ((n + 1 : Nat) : Int) := wrapP (i := n) (by
                    have hb : (g.w.length : Int) * (g.w.length : Int) ≤ 130 * 130 := Int.mul_le_mul (by omega) (by omega) (by omega) (by omega)
                    unfold maxN; omega)
                  show ACall _ _ _ _ _ _
                  refine call_ret (tStep_spec (trN g c n).1 (trN g c n).2 kl (hr.marks.small f3) (work16 hr.w100)) rfl ?_
                  show ARound _ _ _ _
                  exact ⟨⟨n + 1, hlt, hr.step hm hp5, hri.step hr hclosed⟩, (by dsimp only; omega), [(0, 0), (1, 1)], (by repeat' first | exact .nil | refine .cons _ _ _ ?_ ?_ | exact .int_eq wn | exact .same | exact .c _ _ (.own _ _ rfl) | exact .c _ _ (.ptr _ _ _ _ rfl) | exact .c _ _ (.frz _ _ rfl) | exact .any _), (by exact .old 0 0 _ _ _ rfl rfl (.vars _ _ (LeL_refl rfl)) (.old 1 1 _ _ _ rfl rfl (.vars _ _ (LeL_refl rfl)) .nil)), (by rfl)⟩
                · have h6 : (trN g c n).2.phase = 6 := by
                    by_cases h1 : (n : Int) < (N : Int)
                    · rw [decide_eq_true h1] at h
                      have : (trN g c n).2.phase ≠ 5 := of_decide_eq_false h
                      rcases hr.phase with e | e
                      · exact absurd e this
                      · exact e
                    · exact hr.ends hm c2 c3 c1 (by omega)
                  show ACall _ _ _ _ _ _
                  refine call_ret (hUsed_spec g f2) rfl ?_
                  obtain ⟨U, hU⟩ : ∃ U, U = usedH g := ⟨_, rfl⟩
                  rw [← hU]
                  have hUl : U.length ≤ 512 := by rw [hU]; exact used_len g
                  show ∃ n, _
                  refine ⟨0, ALoop.inv (ι := {j : Nat // j ≤ U.length}) (fun q => ⟨[(2, .c (.d (.rp (g.enc)))), (3, .c (.d (.rp (c.enc)))), (7, .c (.d (.sl .int (R)))), (14, .c (.d (.rp ((trN g c n).1.enc)))), (15, .c (.d (.rp ((trN g c n).2.enc)))), (18, .c (.d (.sl .int (U)))), (19, .int (q.1))], [], 32⟩) (fun q => U.length - q.1) ⟨0, Nat.zero_le _⟩ ?_ ?_⟩
                  · exact ⟨[], (by repeat' first | exact .nil | refine .cons _ _ _ ?_ ?_ | exact .same | exact .c _ _ (.own _ _ rfl) | exact .c _ _ (.ptr _ _ _ _ rfl) | exact .c _ _ (.frz _ _ rfl) | exact .any _), (by exact .nil), (by rfl)⟩
                  rintro ⟨j, hj⟩
                  show ABr (decide ((j : Int) < (U.length : Int))) _ _
                  refine ⟨fun h => ?_, fun h => ?_⟩
                  · have hjl : j < U.length := by simpa using h
                    have wj : IntKind.i64.wrap ((j : Int) + 1) = ((j + 1 : Nat) : Int) := wrapP (i := j) (by unfold maxN; omega)
                    show AOb ((0 : Int) ≤ (j : Int) ∧ (j : Int) < (U.length : Int)) _
                    refine ⟨by omega, ?_⟩
                    show ADCall _ _ _ _ _ _
                    refine .mk _ _ (rColour_spec g c (U.getD j default) f2 hw) rfl ?_
                    show AOb ((0 : Int) ≤ (j : Int) ∧ (j : Int) < (U.length : Int)) _
                    refine ⟨by omega, ?_⟩
                    show ADCall _ _ _ _ _ _
                    refine .mk _ _ (rColour_spec (trN g c n).1 (trN g c n).2 (U.getD j default) kl kw) rfl ?_
                    show AOb ((0 : Int) ≤ (j : Int) ∧ (j : Int) < (U.length : Int)) _
                    refine ⟨by omega, ?_⟩
                    show ACall _ _ _ _ _ _
                    refine call_ret (tIn_spec R (U.getD j default)) rfl ?_
                    have hend : (R.contains (U.getD j default) = true ∧ atK (trN g c n).1 (trN g c n).2 (U.getD j default) = 3) ∨ (R.contains (U.getD j default) = false ∧ atK (trN g c n).1 (trN g c n).2 (U.getD j default) = atK g c (U.getD j default)) := by
                      rw [hr.at]
                      cases e : R.contains (U.getD j default) with
                      | true => exact .inl ⟨rfl, reach_black hr h6 (hR.rch _ (List.contains_iff_mem.1 e))⟩
                      | false =>
                        refine .inr ⟨rfl, hri.same _ fun hm => ?_⟩
                        rw [List.contains_iff_mem.2 hm] at e
                        cases e
                    have hX : (bif R.contains (U.getD j default) then !decide (atK (trN g c n).1 (trN g c n).2 (U.getD j default) = 3) else false) = false := by
                      rcases hend with ⟨e1, e2⟩ | ⟨e1, e2⟩
                      · rw [e1, decide_eq_true e2]; rfl
                      · rw [e1]; rfl
                    have hY : (bif (!R.contains (U.getD j default)) then !decide (atK (trN g c n).1 (trN g c n).2 (U.getD j default) = atK g c (U.getD j default)) else false) = false := by
                      rcases hend with ⟨e1, e2⟩ | ⟨e1, e2⟩
                      · rw [e1]; rfl
                      · rw [e1, decide_eq_true e2]; rfl
                    show AOb _ _
                    refine ⟨fun _ => (by omega : (0 : Int) ≤ (j : Int) ∧ (j : Int) < (U.length : Int)), ?_⟩
                    show AIf _ _ _
                    refine ⟨fun _ => ?_, fun h => absurd ⟨hX, trivial⟩ h⟩
                    show ACall _ _ _ _ _ _
                    refine call_ret (tIn_spec R (U.getD j default)) rfl ?_
                    show ABr (bif (!R.contains (U.getD j default)) then !decide (atK (trN g c n).1 (trN g c n).2 (U.getD j default) = atK g c (U.getD j default)) else false) _ _
                    refine ⟨fun h => absurd h (by rw [hY]; decide), fun _ => ?_⟩
                    show ARound _ _ _ _
                    exact ⟨⟨j + 1, hjl⟩, (by dsimp only; omega), [], (by repeat' first | exact .nil | refine .cons _ _ _ ?_ ?_ | exact .int_eq wj | exact .same | exact .c _ _ (.own _ _ rfl) | exact .c _ _ (.ptr _ _ _ _ rfl) | exact .c _ _ (.frz _ _ rfl) | exact .any _), (by exact .nil), (by rfl)⟩
                  · show ARet _ _ _
                    refine ret_bo (x := decide ((trN g c n).2.phase = 6)) (decide_eq_true h6) ⟨rfl, rfl⟩
              · have hgt : R0.length < R.length := by have := of_decide_eq_false h; omega
                show ARound _ _ _ _
                exact ⟨⟨R, hR⟩, (by dsimp only; omega), [(1, 1)], (by repeat' first | exact .nil | refine .cons _ _ _ ?_ ?_ | exact .same | exact .c _ _ (.own _ _ rfl) | exact .c _ _ (.ptr _ _ _ _ rfl) | exact .c _ _ (.frz _ _ rfl) | exact .any _), (by exact .old 1 1 _ _ _ rfl rfl (.data_eq rfl) .nil), (by rfl)⟩
    · have hc : (bif (bif (bif !true then true else !true) then true else !decide (c.phase = 5)) then true else !c.major) = true := by
        by_cases hp : c.phase = 5
        · have hj : c.major = false := by
            cases e : c.major with
            | true => exact absurd ⟨hp, e⟩ hpj
            | false => rfl
          rw [hj]; simp
        · rw [decide_eq_false hp]; simp
      refine ⟨fun h => absurd h.1 (by rw [hc]; decide), fun _ => ?_⟩
      show AOb _ _
      refine ⟨by exact hc, ?_⟩
      show AIf _ _ _
      refine ⟨fun h => absurd h.1 (by decide), fun _ => ?_⟩
      show AOb _ _
      refine ⟨by decide, ?_⟩
      show ABr _ _ _
      refine ⟨fun _ => ?_, fun h => absurd h (by simp)⟩
      show ARet _ _ _
      exact ret_d rfl ⟨rfl, rfl⟩
end Go.Abs
