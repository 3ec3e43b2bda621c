/- Walks: a step of freeing what is white. -/
import Derived.Test.YtpkngagppfoccaaGreatDoorWReap
import Derived.Test.YtpkngagppfoccaaGreatDoorWNext
set_option linter.all false
set_option linter.unusedVariables false
set_option linter.unusedSimpArgs false
namespace Go.Abs
open Go.Proofs Go.Proofs.YtpkngagppfoccaaGreatDoor
set_option maxRecDepth 8000

/-- What becomes of an object. -/
def fateH (g : Hp) (c : Col) (a : Int) : Int := if headE g a ≠ 0 ∨ ((headH g a).old = true ∧ c.major = false) then 0 else if (headH g a).mark < c.epoch then 1 else if (headH g a).old = false ∧ (headH g a).born < c.epoch then 2 else 0

theorem fateH_cases (g : Hp) (c : Col) (a : Int) : fateH g c a = 0 ∨ (fateH g c a = 1 ∧ headE g a = 0) ∨ (fateH g c a = 2 ∧ headE g a = 0) := by
  unfold fateH
  split
  · exact .inl rfl
  · rename_i h
    have h : headE g a = 0 := Classical.byContradiction fun k => h (.inl k)
    split
    · exact .inr (.inl ⟨rfl, h⟩)
    · split
      · exact .inr (.inr ⟨rfl, h⟩)
      · exact .inl rfl
theorem fateH_col {c d : Col} (h1 : d.epoch = c.epoch) (h2 : d.major = c.major) (g : Hp) (a : Int) : fateH g d a = fateH g c a := by unfold fateH; rw [h1, h2]

theorem Fate_spec (g : Hp) (c : Col) (a : Int) (hl : g.light) : Spec X 16 [] [g.tv, c.tv, .int a] (Ret [] (.int (fateH g c a))) := by
  refine spec_go X_ok Tryz.f16 (by kernel_rfl) (by kernel_rfl) (by kernel_rfl) fun hb hH => ⟨rfl, ?_⟩
  show ACall _ _ _ _ _ _
  refine call_ret (hHead_spec g a hl) rfl ?_
  unfold fateH
  by_cases hE : headE g a = 0
  · show ABr (!decide (headE g a = 0)) _ _
    rw [decide_eq_true hE]
    show ABr _ _ _
    refine ⟨fun h => absurd h (by decide), fun _ => ?_⟩
    by_cases h1 : (headH g a).old = true ∧ c.major = false
    · rw [if_pos (.inr h1)]
      show ABr (bif (headH g a).old then !c.major else false) _ _
      rw [h1.1, h1.2]
      show ABr _ _ _
      refine ⟨fun _ => ?_, fun h => absurd h (by decide)⟩
      show ARet _ _ _
      exact ret_d rfl ⟨rfl, rfl⟩
    · rw [if_neg (fun k => k.elim (fun k => k hE) h1)]
      show ABr (bif (headH g a).old then !c.major else false) _ _
      rw [show (bif (headH g a).old then !c.major else false) = false by cases ho : (headH g a).old <;> cases hm : c.major <;> first | rfl | exact absurd ⟨ho, hm⟩ h1]
      show ABr _ _ _
      refine ⟨fun h => absurd h (by decide), fun _ => ?_⟩
      show ABr (decide ((headH g a).mark < c.epoch)) _ _
      by_cases h2 : (headH g a).mark < c.epoch
      · rw [if_pos h2, decide_eq_true h2]
        show ABr _ _ _
        refine ⟨fun _ => ?_, fun h => absurd h (by decide)⟩
        show ARet _ _ _
        exact ret_d rfl ⟨rfl, rfl⟩
      · rw [if_neg h2, decide_eq_false h2]
        show ABr _ _ _
        refine ⟨fun h => absurd h (by decide), fun _ => ?_⟩
        show ABr (bif !(headH g a).old then decide ((headH g a).born < c.epoch) else false) _ _
        by_cases h3 : (headH g a).old = false ∧ (headH g a).born < c.epoch
        · rw [if_pos h3, h3.1, decide_eq_true h3.2]
          show ABr _ _ _
          refine ⟨fun _ => ?_, fun h => absurd h (by decide)⟩
          show ARet _ _ _
          exact ret_d rfl ⟨rfl, rfl⟩
        · rw [if_neg h3, show (bif !(headH g a).old then decide ((headH g a).born < c.epoch) else false) = false by cases ho : (headH g a).old <;> first | rfl | exact decide_eq_false fun k => h3 ⟨ho, k⟩]
          show ABr _ _ _
          refine ⟨fun h => absurd h (by decide), fun _ => ?_⟩
          show ARet _ _ _
          exact ret_d rfl ⟨rfl, rfl⟩
  · rw [if_pos (.inl hE)]
    show ABr (!decide (headE g a = 0)) _ _
    rw [decide_eq_false hE]
    show ABr _ _ _
    refine ⟨fun _ => ?_, fun h => absurd h (by decide)⟩
    show ABr (!decide (headE g a = 0)) _ _
    rw [decide_eq_false hE]
    show ABr _ _ _
    refine ⟨fun _ => ?_, fun h => absurd h (by decide)⟩
    show ARet _ _ _
    exact ret_d rfl ⟨rfl, rfl⟩

/-- A heap, and a collector that sweeps it, in one cell. -/
def swV (g : Hp) (c : Col) : List CV := (g.enc ++ c.enc).map .d

theorem swown_spec (g : Hp) (c : Col) (hs : g.small) (hw : c.work.length ≤ most) : Spec X 27 [] [g.tv, c.tv] (Ret [(0, .vars (swV g c))] (.c (.ptr 0 0 0))) := by
  refine spec_go X_ok Tryz.f27 (by kernel_rfl) (by kernel_rfl) (by kernel_rfl) fun hb hH => ⟨rfl, ?_⟩
  obtain ⟨h1, h2, h3, h4, h5, h6⟩ := hs
  show ADCall _ _ _ _ _ _
  refine .mk _ _ (CloneInts_spec g.w h1) rfl ?_
  show ADCall _ _ _ _ _ _
  refine .mk _ _ (ClonePages_spec g.pages h2) rfl ?_
  show ADCall _ _ _ _ _ _
  refine .mk _ _ (CloneBools_spec g.cards h3) rfl ?_
  show ∃ n, _
  refine ⟨4, ?_⟩
  show ALoop _ _ _ _
  refine .next ?_
  show ABr _ _ _
  refine ⟨fun _ => ?_, fun h => absurd h (by decide)⟩
  show AOb _ _
  refine ⟨by decide, ?_⟩
  show ACall _ _ _ _ _ _
  refine call_ret (CloneInts_spec g.free.l0 h4) rfl ?_
  show AOb _ _
  refine ⟨by decide, ?_⟩
  show ALoop _ _ _ _
  refine .next ?_
  show ABr _ _ _
  refine ⟨fun _ => ?_, fun h => absurd h (by decide)⟩
  show AOb _ _
  refine ⟨by decide, ?_⟩
  show ACall _ _ _ _ _ _
  refine call_ret (CloneInts_spec g.free.l1 h5) rfl ?_
  show AOb _ _
  refine ⟨by decide, ?_⟩
  show ALoop _ _ _ _
  refine .next ?_
  show ABr _ _ _
  refine ⟨fun _ => ?_, fun h => absurd h (by decide)⟩
  show AOb _ _
  refine ⟨by decide, ?_⟩
  show ACall _ _ _ _ _ _
  refine call_ret (CloneInts_spec g.free.l2 h6) rfl ?_
  show AOb _ _
  refine ⟨by decide, ?_⟩
  show ALoop _ _ _ _
  refine .next ?_
  show ABr _ _ _
  refine ⟨fun h => absurd h (by decide), fun _ => ?_⟩
  show ACall _ _ _ _ _ _
  refine call_ret (CloneInts_spec c.work hw) rfl ?_
  show ARet _ _ _
  exact ⟨[(_, 0)], [(0, .vars (swV g c))], [.c (.ptr 0 0 0)], .cons _ _ _ _ (.c _ _ (.ptr1 _ _ _ _)) .nil, .old 0 _ _ _ _ rfl rfl (.vars _ _ (LeL_refl rfl)) .nil, rfl, rfl, rfl⟩

theorem swfree_spec (g : Hp) (c : Col) (a : Int) (hl : g.light) (hs : g.small) : Spec X 64 [(16, .vars (swV g c))] [.c (.ptr 16 0 0), .int a] (fun H r => H = [(16, .vars (swV (freeH g a) c))] ∧ r = .tup []) := by
  refine spec_go X_ok Tryz.f64 (by kernel_rfl) (by kernel_rfl) (by kernel_rfl) fun hb hH => ⟨rfl, ?_⟩
  show ACall _ _ _ _ _ _
  refine call_ret (Free_spec g a hl hs) rfl ?_
  show ARet _ _ _
  exact ⟨[(16, 16)], [(16, .vars (swV (freeH g a) c))], [], .nil, .old 16 16 _ _ _ rfl rfl (.vars _ _ (LeL_refl rfl)) .nil, rfl, rfl, rfl⟩

theorem swdirty_spec (g : Hp) (c : Col) (a : Int) (hl : g.light) (ha : a < 9223372036854775808) : Spec X 65 [(16, .vars (swV g c))] [.c (.ptr 16 0 0), .int a] (fun H r => H = [(16, .vars (swV (dirtyH g a) { c with met := true }))] ∧ r = .tup []) := by
  refine spec_go X_ok Tryz.f65 (by kernel_rfl) (by kernel_rfl) (by kernel_rfl) fun hb hH => ⟨rfl, ?_⟩
  show ACall _ _ _ _ _ _
  refine call_ret (Dirty_spec g a hl ha) rfl ?_
  show ARet _ _ _
  exact ⟨[(16, 16)], [(16, .vars (swV (dirtyH g a) { c with met := true }))], [], .nil, .old 16 16 _ _ _ rfl rfl (.vars _ _ (LeL_refl rfl)) .nil, rfl, rfl, rfl⟩

theorem swend_spec (g : Hp) (c : Col) : Spec X 31 [(16, .vars (swV g c))] [.c (.ptr 16 0 0)] (fun H r => H = [(16, .vars (swV g ⟨0, c.epoch, c.major, [], false, 0, 0, 0, 0, false⟩))] ∧ r = .tup []) := by
  refine spec_go X_ok Tryz.f31 (by kernel_rfl) (by kernel_rfl) (by kernel_rfl) fun hb hH => ⟨rfl, ?_⟩
  show ARet _ _ _
  exact ⟨[(16, 16)], [(16, .vars (swV g ⟨0, c.epoch, c.major, [], false, 0, 0, 0, 0, false⟩))], [], .nil, .old 16 16 _ _ _ rfl rfl (.vars _ _ (.cons _ _ _ _ (.d _) (.cons _ _ _ _ (.d _) (.cons _ _ _ _ (.d _) (.cons _ _ _ _ (.d _) (.cons _ _ _ _ (.d _) (.cons _ _ _ _ (.d _) (.cons _ _ _ _ (.d _) (.cons _ _ _ _ (.d _) (.cons _ _ _ _ (.d _) (.cons _ _ _ _ (.nilsl .int) (.cons _ _ _ _ (.d _) (.cons _ _ _ _ (.d _) (.cons _ _ _ _ (.d _) (.cons _ _ _ _ (.d _) (.cons _ _ _ _ (.d _) (.cons _ _ _ _ (.d _) .nil))))))))))))))))) .nil, rfl, rfl, rfl⟩

/-- It grows old, if it is to. -/
def ageG (g : Hp) (c : Col) : Hp := if fateH g c c.seek = 2 then setH g c.seek { headH g c.seek with old := true } else g

theorem swage_spec (g : Hp) (c : Col) (hl : g.light) : Spec X 29 [(16, .vars (swV g c))] [.c (.ptr 16 0 0), .int c.seek] (fun H r => H = [(16, .vars (swV (ageG g c) { c with met := false }))] ∧ r = .tup []) := by
  refine spec_go X_ok Tryz.f29 (by kernel_rfl) (by kernel_rfl) (by kernel_rfl) fun hb hH => ⟨rfl, ?_⟩
  show ADCall _ _ _ _ _ _
  refine .mk _ _ (Fate_spec g { c with met := false } c.seek hl) rfl ?_
  rw [fateH_col (c := c) (d := { c with met := false }) rfl rfl]
  unfold ageG
  by_cases h : fateH g c c.seek = 2
  · rw [if_pos h]
    show ABr (!decide (fateH g c c.seek = 2)) _ _
    rw [decide_eq_true h]
    show ABr _ _ _
    refine ⟨fun h => absurd h (by decide), fun _ => ?_⟩
    show ACall _ _ _ _ _ _
    refine call_ret (hHead_spec g c.seek hl) rfl ?_
    show ADCall _ _ _ _ _ _
    refine .mk _ _ (hSet_spec g c.seek { headH g c.seek with old := true } hl) rfl ?_
    show ARet _ _ _
    exact ⟨[(16, 16)], [(16, .vars (swV (setH g c.seek { headH g c.seek with old := true }) { c with met := false }))], [], .nil, .old 16 16 _ _ _ rfl rfl (.vars _ _ (LeL_refl rfl)) .nil, rfl, rfl, rfl⟩
  · rw [if_neg h]
    show ABr (!decide (fateH g c c.seek = 2)) _ _
    rw [decide_eq_false h]
    show ABr _ _ _
    refine ⟨fun _ => ?_, fun h => absurd h (by decide)⟩
    show ARet _ _ _
    exact ⟨[(16, 16)], [(16, .vars (swV g { c with met := false }))], [], .nil, .old 16 16 _ _ _ rfl rfl (.vars _ _ (LeL_refl rfl)) .nil, rfl, rfl, rfl⟩

/-- A cell is gone to. -/
def cellS (g : Hp) (c : Col) (a : Int) : Hp × Col := if fateH g c a = 1 then (freeH g a, { c with seek := a }) else if fateH g c a = 2 then (dirtyH g a, { c with seek := a, met := true }) else (g, { c with seek := a })

set_option maxRecDepth 60000 in
set_option maxHeartbeats 2000000 in
theorem swcell_spec (g : Hp) (c : Col) (a : Int) (hl : g.light) (hs : g.small) (ha : a < 9223372036854775808) : Spec X 30 [(16, .vars (swV g c))] [.c (.ptr 16 0 0), .int a] (fun H r => H = [(16, .vars (swV (cellS g c a).1 (cellS g c a).2))] ∧ r = .tup []) := by
  refine spec_go X_ok Tryz.f30 (by kernel_rfl) (by kernel_rfl) (by kernel_rfl) fun hb hH => ⟨rfl, ?_⟩
  have fs := Fate_spec g { c with seek := a } a hl
  rw [fateH_col (c := c) (d := { c with seek := a }) rfl rfl] at fs
  unfold cellS
  rcases fateH_cases g c a with h | ⟨h, _⟩ | ⟨h, _⟩
  · rw [h] at fs ⊢
    show ADCall _ _ _ _ _ _
    refine .mk _ _ (fs) rfl ?_
    show ABr _ _ _
    refine ⟨fun h => absurd h (by decide), fun _ => ?_⟩
    show ARet _ _ _
    exact ⟨[(16, 16)], [(16, .vars (swV g { c with seek := a }))], [], .nil, .old 16 16 _ _ _ rfl rfl (.vars _ _ (LeL_refl rfl)) .nil, rfl, rfl, rfl⟩
  · rw [h] at fs ⊢
    show ADCall _ _ _ _ _ _
    refine .mk _ _ (fs) rfl ?_
    show ABr _ _ _
    refine ⟨fun _ => ?_, fun h => absurd h (by decide)⟩
    show ACall _ _ _ _ _ _
    refine .hand [(16, 16)] [(16, .vars (swV g { c with seek := a }))] [.c (.ptr 16 0 0), .int a] _ (.cons _ _ _ _ (.c _ _ (.ptr _ _ _ _ rfl)) (.cons _ _ _ _ .same .nil)) (.old 16 16 _ _ _ rfl rfl (.vars _ _ (LeL_refl rfl)) .nil) rfl (swfree_spec g { c with seek := a } a hl hs) ?_
    rintro H r ⟨rfl, rfl⟩ _ _
    refine ⟨rfl, .inl rfl, ?_⟩
    show ARet _ _ _
    exact ⟨[(16, 16)], [(16, .vars (swV (freeH g a) { c with seek := a }))], [], .nil, .old 16 16 _ _ _ rfl rfl (.vars _ _ (LeL_refl rfl)) .nil, rfl, rfl, rfl⟩
  · rw [h] at fs ⊢
    show ADCall _ _ _ _ _ _
    refine .mk _ _ (fs) rfl ?_
    show ABr _ _ _
    refine ⟨fun _ => ?_, fun h => absurd h (by decide)⟩
    show ACall _ _ _ _ _ _
    refine .hand [(16, 16)] [(16, .vars (swV g { c with seek := a }))] [.c (.ptr 16 0 0), .int a] _ (.cons _ _ _ _ (.c _ _ (.ptr _ _ _ _ rfl)) (.cons _ _ _ _ .same .nil)) (.old 16 16 _ _ _ rfl rfl (.vars _ _ (LeL_refl rfl)) .nil) rfl (swdirty_spec g { c with seek := a } a hl ha) ?_
    rintro H r ⟨rfl, rfl⟩ _ _
    refine ⟨rfl, .inl rfl, ?_⟩
    show ARet _ _ _
    exact ⟨[(16, 16)], [(16, .vars (swV (dirtyH g a) { c with seek := a, met := true }))], [], .nil, .old 16 16 _ _ _ rfl rfl (.vars _ _ (LeL_refl rfl)) .nil, rfl, rfl, rfl⟩

/-- A step of the sweep. -/
def sweepS (g : Hp) (c : Col) : Hp × Col :=
  if mayH g [] = true ∧ c.phase = 6 then
    (if c.met = true then (ageG g c, { c with met := false })
     else if nextB g.pages c.seek = true then cellS g c (nextS g.pages c.seek)
     else (g, ⟨0, c.epoch, c.major, [], false, 0, 0, 0, 0, false⟩))
  else (g, c)

theorem next_lt {l : List Page} {a : Int} : nextS l a < 9223372036854775808 := by
  unfold nextS
  cases h : (cellStarts l).find? fun s => decide (a < s) with
  | none => show (0 : Int) < _; omega
  | some x =>
    have hx := List.mem_of_find?_eq_some h
    obtain ⟨hm, j, hj⟩ := cellOf_mem (roomAt_pos (mem_starts.1 hx))
    have h1 : x < 16 * ((j : Int) + 2) := hj.hi
    have h2 := hj.lt
    have h3 := (mayP_ok hm).2.2
    show x < _
    omega

set_option maxRecDepth 60000 in
set_option maxHeartbeats 2000000 in
theorem swStep_spec (g : Hp) (c : Col) (hl : g.light) (hs : g.small) (hk : c.work.length ≤ most) : Spec X 12 [] [g.tv, c.tv] (Ret [] (.tup [(sweepS g c).1.tv, (sweepS g c).2.tv])) := by
  refine spec_go X_ok Tryz.f12 (by kernel_rfl) (by kernel_rfl) (by kernel_rfl) fun hb hH => ⟨rfl, ?_⟩
  show ACall _ _ _ _ _ _
  refine .mk _ (swown_spec g c hs hk) fun H r ⟨eH, er⟩ _ _ => ⟨.inl rfl, ?_⟩
  subst eH er
  show ACall _ _ _ _ _ _
  refine call_ret (nextC_spec g.pages c.seek) rfl ?_
  show ACall _ _ _ _ _ _
  refine call_ret (hHMay0_spec g hl) rfl ?_
  unfold sweepS
  by_cases hm : mayH g [] = true
  · show ABr (!mayH g []) _ _
    rw [hm]
    show ABr _ _ _
    refine ⟨fun h => absurd h (by decide), fun _ => ?_⟩
    show ABr (!decide (c.phase = 6)) _ _
    by_cases hp : c.phase = 6
    · rw [if_pos ⟨rfl, hp⟩, decide_eq_true hp]
      show ABr _ _ _
      refine ⟨fun h => absurd h (by decide), fun _ => ?_⟩
      show ABr c.met _ _
      refine ⟨fun hmet => ?_, fun hmet => ?_⟩
      · rw [if_pos hmet]
        show ACall _ _ _ _ _ _
        refine .hand [(224, 16)] [(16, .vars (swV g c))] [.c (.ptr 16 0 0), .int c.seek] _ (.cons _ _ _ _ (.c _ _ (.ptr _ _ _ _ rfl)) (.cons _ _ _ _ .same .nil)) (.old 16 224 _ _ _ rfl rfl (.vars _ _ (LeL_refl rfl)) .nil) rfl (swage_spec g c hl) ?_
        rintro H r ⟨rfl, rfl⟩ _ _
        refine ⟨rfl, .inl rfl, ?_⟩
        show ARet _ _ _
        exact ret_d rfl ⟨rfl, rfl⟩
      · rw [if_neg (by rw [hmet]; decide)]
        show ABr (nextB g.pages c.seek) _ _
        cases hn : nextB g.pages c.seek with
        | true =>
          rw [if_pos rfl]
          show ABr _ _ _
          refine ⟨fun _ => ?_, fun h => absurd h (by decide)⟩
          show ACall _ _ _ _ _ _
          refine .hand [(224, 16)] [(16, .vars (swV g c))] [.c (.ptr 16 0 0), .int (nextS g.pages c.seek)] _ (.cons _ _ _ _ (.c _ _ (.ptr _ _ _ _ rfl)) (.cons _ _ _ _ .same .nil)) (.old 16 224 _ _ _ rfl rfl (.vars _ _ (LeL_refl rfl)) .nil) rfl (swcell_spec g c (nextS g.pages c.seek) hl hs next_lt) ?_
          rintro H r ⟨rfl, rfl⟩ _ _
          refine ⟨rfl, .inl rfl, ?_⟩
          show ARet _ _ _
          exact ret_d rfl ⟨rfl, rfl⟩
        | false =>
          rw [if_neg (by decide)]
          show ABr _ _ _
          refine ⟨fun h => absurd h (by decide), fun _ => ?_⟩
          show ACall _ _ _ _ _ _
          refine .hand [(224, 16)] [(16, .vars (swV g c))] [.c (.ptr 16 0 0)] _ (.cons _ _ _ _ (.c _ _ (.ptr _ _ _ _ rfl)) .nil) (.old 16 224 _ _ _ rfl rfl (.vars _ _ (LeL_refl rfl)) .nil) rfl (swend_spec g c) ?_
          rintro H r ⟨rfl, rfl⟩ _ _
          refine ⟨rfl, .inl rfl, ?_⟩
          show ARet _ _ _
          exact ret_d rfl ⟨rfl, rfl⟩
    · rw [if_neg (fun k => hp k.2), decide_eq_false hp]
      show ABr _ _ _
      refine ⟨fun _ => ?_, fun h => absurd h (by decide)⟩
      show ARet _ _ _
      exact ret_d rfl ⟨rfl, rfl⟩
  · show ABr (!mayH g []) _ _
    rw [if_neg (fun k => hm k.1), show mayH g [] = false by simpa using hm]
    show ABr _ _ _
    refine ⟨fun _ => ?_, fun h => absurd h (by decide)⟩
    show ABr (!false) _ _
    show ABr _ _ _
    refine ⟨fun _ => ?_, fun h => absurd h (by decide)⟩
    show ARet _ _ _
    exact ret_d rfl ⟨rfl, rfl⟩
end Go.Abs
