/- Code and functions: what is shown of the body is so of the call. -/
import Derived.Test.YtlknhkocpjjkdaaAbsDraw
set_option linter.all false
set_option linter.unusedVariables false
set_option linter.unusedSimpArgs false
namespace Go.Abs
section
variable {X : Ctx} {N : Names} {S : Nat → Prop} {w : World}

/-! Code. -/
structure SRep (X : Ctx) (nt : Nat) (S : Nat → Prop) (s : AS) (a : Act) (N : Names) (w : World) : Prop where
  nr : NR N S w
  hr : HR N S w s.h
  fresh : ∀ b, s.nx ≤ b → N b = .unused
  size : a.tmps.size = nt
  def_ : a.defers = []
  g : GOk X (OO N S) w
  t : ∀ n, RepT N S w (look .any s.t n) (a.eval (.tmp n))

theorem LeTs.sound {ρ : List (Nat × Nat)} {h h' : Heap} {t : List (Nat × TV)} {a : Act} (hok : okR ρ = true) (hnr : NR N S w) (hh : HR N S w h) (ht : ∀ n, RepT N S w (look .any t n) (a.eval (.tmp n))) :
    ∀ {t' : List (Nat × TV)}, LeTs ρ h h' t t' → ∀ n, RepT (leN ρ N h') S w (look .any t' n) (a.eval (.tmp n))
  | _, .nil, n => .any _
  | _, .cons s v r h1 h2, n => by
    simp only [look]
    cases hb : Nat.beq s n with
    | true => simp only [cond_true]; rw [← Nat.eq_of_beq_eq_true hb]; exact h1.sound hok hnr hh (ht s)
    | false => simp only [cond_false]; exact LeTs.sound hok hnr hh ht h2 n

theorem SRep.le {nt : Nat} {s s' : AS} {a : Act} (h : SRep X nt S s a N w) (hle : ALe s s') : ∃ N', SRep X nt S s' a N' w ∧ Frm N w N' w := by
  obtain ⟨ρ, h1, h2, h3⟩ := hle
  simp only [Bool.and_eq_true] at h3
  obtain ⟨⟨⟨⟨⟨hok, hd⟩, hb⟩, hi⟩, hfo⟩, h32⟩ := h3
  exact ⟨leN ρ N s'.h, ⟨leN_nr hok h.nr, fun c y hy => LeH.sound hok h.nr h.hr h2 (fun c x hx => hx) hd c y hy, fun c hc => leN_unused (Nat.le_of_ble_eq_true h32) hb hi hc, h.size, h.def_,
    fun g xs hx => (h.g g xs hx).sub fun k _ => leN_oo, LeTs.sound hok h.nr h.hr h.t h1⟩, .refl _ _, fun k _ => leN_owned, leN_fx hfo⟩

def lift (X : Ctx) (nt : Nat) (S : Nat → Prop) (N0 : Names) (w0 : World) (Q : AExit → AS → Prop) (e : Exit) (a : Act) (w : World) : Prop :=
  ∃ s N, SRep X nt S s a N w ∧ Frm N0 w0 N w ∧ match e with
    | .normal => Q .normal s
    | .exit id => Q (.exit id) s
    | .ret => Q .ret s
    | _ => False

/-- What a loop's rounds come to. -/
def roundsWp (P : Program) (c : Code) (Q : Exit → Act → World → Prop) (a : Act) (w : World) : Prop :=
  ∀ (b : Frame) (k : List Item) (cs : List Frame), ∃ e a' w', Q e a' w' ∧ Arrives P (lone (b.at a (.code c :: .inLoop c :: k)) cs w) b k cs e a' w'

theorem rounds_loop {P : Program} {c : Code} {Q : Exit → Act → World → Prop} {a : Act} {w : World} (h : roundsWp P c Q a w) : (Code.loop c).wp P Q a w :=
  fun b k cs => let ⟨e, a', w', q, r⟩ := h b k cs; ⟨e, a', w', q, .of_steps (.one step_loop) r⟩

theorem rounds_one {P : Program} {c : Code} {Q : Exit → Act → World → Prop} {a : Act} {w : World} (h : c.wp P (Exit.then (roundsWp P c Q) Q) a w) : roundsWp P c Q a w := by
  intro b k cs
  obtain ⟨e, a₁, w₁, hq, harr⟩ := h b (.inLoop c :: k) cs
  cases e with
  | normal =>
    obtain ⟨e₂, a₂, w₂, hq₂, harr₂⟩ := hq b k cs
    exact ⟨e₂, a₂, w₂, hq₂, .of_steps (Steps.trans harr (.one step_inLoop)) harr₂⟩
  | exit id => exact ⟨_, a₁, w₁, hq, .pass (x := .inLoop c) rfl (fun _ _ => .inl (by simp)) harr⟩
  | goto l => exact ⟨_, a₁, w₁, hq, .pass (x := .inLoop c) rfl (fun _ _ => .inl (by simp)) harr⟩
  | ret => exact ⟨_, a₁, w₁, hq, .pass (x := .inLoop c) rfl (fun _ _ => .inl (by simp)) harr⟩
  | panic ch => exact ⟨_, a₁, w₁, hq, .pass (x := .inLoop c) rfl (fun _ _ => .inl (by simp)) harr⟩
  | outgrown => exact ⟨_, a₁, w₁, hq, .pass (x := .inLoop c) rfl (fun _ _ => .inl (by simp)) harr⟩

def SoundAt (X : Ctx) (nt : Nat) (S : Nat → Prop) (N0 : Names) (w0 : World) (c : Code) (F : AS → (AExit → AS → Prop) → Prop) : Prop :=
  ∀ (s : AS) (Q : AExit → AS → Prop) (a : Act) (N : Names) (w : World), F s Q → SRep X nt S s a N w → Frm N0 w0 N w → c.wp X.P (lift X nt S N0 w0 Q) a w

theorem loop_sound {nt : Nat} {N0 : Names} {w0 : World} {c : Code} {F : AS → (AExit → AS → Prop) → Prop} (hF : SoundAt X nt S N0 w0 c F) :
    ∀ {n : Nat} {s : AS} {Q : AExit → AS → Prop} {a : Act} {N : Names} {w : World}, ALoop F n s Q → SRep X nt S s a N w → Frm N0 w0 N w → roundsWp X.P c (lift X nt S N0 w0 Q) a w := by
  intro n s Q a N w hl
  induction hl generalizing a N w with
  | @inv s Q ι St m x0 start round =>
    intro hs hf
    have key : ∀ n (x : ι) (a : Act) (N : Names) (w : World), m x = n → SRep X nt S (St x) a N w → Frm N0 w0 N w → roundsWp X.P c (lift X nt S N0 w0 Q) a w := by
      intro n
      induction n using Nat.strongRecOn with
      | _ n ih =>
        intro x a N w hn hs hf
        refine rounds_one (wp_mono (hF (St x) _ a N w (round x) hs hf) ?_)
        rintro e a' w' ⟨s', N', h1, h2, h3⟩
        cases e with
        | normal =>
          obtain ⟨y, hlt, hle⟩ := h3
          obtain ⟨N'', g1, g2⟩ := h1.le hle
          exact ih (m y) (hn ▸ hlt) y a' N'' w' rfl g1 (h2.trans g2)
        | exit id => exact ⟨s', N', h1, h2, h3⟩
        | ret => exact ⟨s', N', h1, h2, h3⟩
        | goto l => exact h3.elim
        | panic ch => exact h3.elim
        | outgrown => exact h3.elim
    obtain ⟨N', g1, g2⟩ := hs.le start
    exact key _ x0 a N' w rfl g1 (hf.trans g2)
  | unroll K h hn he hr ih =>
    intro hs hf
    refine rounds_one (wp_mono (hF _ K a N w h hs hf) ?_)
    rintro e a' w' ⟨s', N', h1, h2, h3⟩
    cases e with
    | normal => exact ih s' h3 h1 h2
    | exit id => exact ⟨s', N', h1, h2, he id s' h3⟩
    | ret => exact ⟨s', N', h1, h2, hr s' h3⟩
    | goto l => exact h3.elim
    | panic ch => exact h3.elim
    | outgrown => exact h3.elim

theorem strip_rep {ops : List Oper} {t : List (Nat × TV)} {nx nt i : Nat} {R : RS} {a : Act} (inv : RInv X ops t nx nt S i R a N w) (n : Nat) : RepT N S w (look .any (R.strip ++ t) n) (a.eval (.tmp n)) := by
  have look_app : ∀ (l : List (Nat × Chain × TV)), look .any (l.map (fun p => (p.1, bif p.2.1.beq [] || p.2.1.mem R.kt then p.2.2 else .any)) ++ t) n =
      match rfind l n with | some (c, v) => (bif c.beq [] || c.mem R.kt then v else .any) | none => look .any t n := by
    intro l
    induction l with
    | nil => rfl
    | cons p r ih =>
      obtain ⟨s, c, v⟩ := p
      simp only [List.map_cons, List.cons_append, look, rfind]
      cases hb : Nat.beq s n with
      | true => simp
      | false => simp only [cond_false]; exact ih
  have e : R.strip = R.r.map (fun p => (p.1, bif p.2.1.beq [] || p.2.1.mem R.kt then p.2.2 else .any)) := rfl
  rw [e, look_app]
  cases hr : rfind R.r n with
  | none => exact inv.old n hr
  | some p =>
    obtain ⟨c, v⟩ := p
    simp only
    cases hc : c.beq [] || c.mem R.kt with
    | false => exact .any _
    | true =>
      refine (inv.new n c v hr).2 ?_
      rcases Bool.or_eq_true _ _ ▸ hc with h | h
      · rw [Chain.beq_eq h]; exact trivial
      · exact (inv.kt c (Chain.mem_mem h)).2

theorem awp_sound (hX : XOk X) (nt : Nat) (S : Nat → Prop) (N0 : Names) (w0 : World) : ∀ (c : Code), SoundAt X nt S N0 w0 c (awp X nt c)
  | .skip => fun s Q a N w h hs hf => wp_skip ⟨s, N, hs, hf, h⟩
  | .ret => fun s Q a N w h hs hf => wp_ret ⟨s, N, hs, hf, h⟩
  | .exit id => fun s Q a N w h hs hf => wp_exit ⟨s, N, hs, hf, h⟩
  | .seq x y => fun s Q a N w h hs hf => by
    refine wp_seq (wp_mono (awp_sound hX nt S N0 w0 x s _ a N w h hs hf) ?_)
    rintro e a' w' ⟨s', N', h1, h2, h3⟩
    cases e with
    | normal => exact awp_sound hX nt S N0 w0 y s' Q a' N' w' h3 h1 h2
    | exit id => exact ⟨s', N', h1, h2, h3⟩
    | ret => exact ⟨s', N', h1, h2, h3⟩
    | goto l => exact h3.elim
    | panic ch => exact h3.elim
    | outgrown => exact h3.elim
  | .cond c x y => fun s Q a N w h hs hf => by
    unfold awp at h
    split at h
    · rename_i v hv
      have hc : a.eval c = .bool v := rep_lit (hv ▸ rep_opd hs.t hs.g c)
      exact wp_cond_split hc (fun e => awp_sound hX nt S N0 w0 x s Q a N w (h.1 e) hs hf) (fun e => awp_sound hX nt S N0 w0 y s Q a N w (h.2 e) hs hf)
    · exact h.elim
  | .block id c => fun s Q a N w h hs hf => by
    refine wp_block (wp_mono (awp_sound hX nt S N0 w0 c s _ a N w h hs hf) ?_)
    rintro e a' w' ⟨s', N', h1, h2, h3⟩
    cases e with
    | normal => exact ⟨s', N', h1, h2, h3⟩
    | ret => exact ⟨s', N', h1, h2, h3⟩
    | exit j =>
      simp only [ablock] at h3
      simp only [Exit.inBlock]
      cases hj : Nat.beq j id with
      | true =>
        rw [hj] at h3
        rw [if_pos (Nat.eq_of_beq_eq_true hj)]
        exact ⟨s', N', h1, h2, h3⟩
      | false =>
        rw [hj] at h3
        have : j ≠ id := fun e => by subst e; simp at hj
        rw [if_neg this]
        exact ⟨s', N', h1, h2, h3⟩
    | goto l => exact h3.elim
    | panic ch => exact h3.elim
    | outgrown => exact h3.elim
  | .loop c => fun s Q a N w h hs hf => by
    obtain ⟨n, hl⟩ := h
    exact rounds_loop (loop_sound (awp_sound hX nt S N0 w0 c) hl hs hf)
  | .region id ops draw => fun s Q a N w h hs hf => by
    unfold awp at h
    unfold aregion at h
    cases hu : uniq nt ops.toList [] with
    | false => rw [hu] at h; exact h.elim
    | true =>
      rw [hu] at h
      simp only [Bool.not_true, cond_false] at h
      cases draw with
      | true =>
        simp only [cond_true] at h
        exact adraw_sound hX hX.mix (uniq_uq hu) h hs.nr hs.hr hs.fresh hs.size hs.def_ hs.g hs.t fun t' h' a' N' w' hk hf' g1 g2 g3 g4 g5 g6 g7 => ⟨⟨t', h', s.nx + 32 * ops.toList.length⟩, N', ⟨g1, g2, g3, g4, g5, g6, g7⟩, hf.trans hf', hk⟩
      | false =>
      simp only [cond_false] at h
      refine wp_region ?_
      have inv : RInv X ops.toList s.t s.nx nt S 0 ⟨[], [], [], [], s.h⟩ a N w := ⟨hs.nr, hs.hr, fun b hb => hs.fresh b (by omega), hs.size, hs.def_, hs.g, fun n _ => hs.t n, fun n c v hn => (by cases hn), fun n hn => absurd rfl hn,
        fun j c hj => (by cases hj), fun c hc => (by cases hc), fun c hc => (by cases hc)⟩
      have key := areg_sound hX (uniq_uq hu) (Q := lift X nt S N0 w0 Q) ops.toList 0 _ a N w rfl (Nat.zero_le _) inv h fun R' a' N' w' hk hf' hi =>
        ⟨_, N', ⟨hi.nr, hi.hr, hi.fresh, hi.size, hi.def_, hi.g, strip_rep hi⟩, hf.trans hf', hk⟩
      rw [← List.range_eq_range', Array.toArray_toList, Array.length_toList] at key
      exact key
  | .scope _ => fun s Q a N w h hs hf => by cases h
  | .label _ => fun s Q a N w h hs hf => by cases h
  | .goto _ => fun s Q a N w h hs hf => by cases h
  | .rangeFunc .. => fun s Q a N w h hs hf => by cases h
  | .refuse _ => fun s Q a N w h hs hf => by cases h

end
end Go.Abs

namespace Go.Abs
section
variable {X : Ctx} {N : Names} {S : Nat → Prop} {w : World}

theorem look_argT : ∀ (args : List TV) (k n : Nat), look .any (argT k args) n = if k ≤ n then (args[n - k]?).getD .any else .any
  | [], k, n => by simp [argT, look]
  | x :: r, k, n => by
    simp only [argT, look]
    cases hb : Nat.beq k n with
    | true =>
      have := Nat.eq_of_beq_eq_true hb
      subst this
      simp
    | false =>
      simp only [cond_false]
      have hne : k ≠ n := fun e => by subst e; simp at hb
      rw [look_argT r (k + 1) n]
      by_cases hk : k ≤ n
      · have h1 : k + 1 ≤ n := by omega
        have h2 : n - k = (n - (k + 1)) + 1 := by omega
        rw [if_pos h1, if_pos hk, h2, List.getElem?_cons_succ]
      · rw [if_neg (by omega), if_neg hk]

theorem start_rep {nt : Nat} {args : List TV} {vs : List Value} (h : RepTL N S w args vs) (n : Nat) :
    RepT N S w (look .any (argT 0 args) n) (Act.eval { tmps := vs.toArray ++ Array.replicate (nt - vs.toArray.size) undef, defers := [] } (.tmp n)) := by
  rw [look_argT, if_pos (Nat.zero_le n), Nat.sub_zero]
  cases hx : args[n]? with
  | none => exact .any _
  | some x =>
    have hlt : n < vs.length := by rw [← h.1]; exact (List.getElem?_eq_some_iff.1 hx).1
    have hv : vs[n]? = some vs[n] := List.getElem?_eq_getElem hlt
    have e : Act.eval { tmps := vs.toArray ++ Array.replicate (nt - vs.toArray.size) undef, defers := [] } (.tmp n) = vs[n] := by
      simp only [Act.eval]
      rw [Array.getD_eq_getD_getElem?, Array.getElem?_append_left (by simpa using hlt)]
      simp [hlt]
    rw [e]
    exact h.2 n x _ hx hv

theorem aLoad_value (hX : XOk X) {h : Heap} (hh : HR N S w h) {t : Nat} {p tv : TV} {v : Value} (hl : aLoad X h t p = .ok tv []) (hp : RepT N S w p v) :
    ∃ u, (do loadVar t (← asAddr v) : Sem Value).run X.P w = .ok u w ∧ RepT N S w tv u := by
  unfold aLoad at hl
  split at hl
  · rename_i p
    split at hl
    · rename_i cs hr
      cases hc : ((X.ty t).ok && Nat.beq cs.length (X.ty t).size) with
      | false => rw [hc] at hl; cases hl
      | true =>
        rw [hc] at hl
        simp only [Bool.and_eq_true] at hc
        have hlen := Nat.eq_of_beq_eq_true hc.2
        cases hro : readOb h p with
        | some q => rw [hro] at hl; simp [ER.need] at hl
        | none =>
          rw [hro] at hl
          simp only [cond_true, ER.need, ER.ok.injEq, and_true] at hl
          subst hl
          have hp' : RepC N S w p v := by cases hp with | c _ _ h => exact h
          obtain ⟨ad, vs, hv, hs, hca, hrep⟩ := readAt_rep hh hp' hr hlen (by rw [hro]; simp)
          refine ⟨_, ?_, rep_ofCells hrep⟩
          subst hv
          simp only [asAddr, Sem.run_bind, Sem.run_pure, Result.andThen_ok]
          exact run_loadVar (hX := hX) hc.1 ad hs vs (by rw [← hrep.1]; exact hlen) hca (size_one hX hc.1)
    · cases hl
  · cases hl

theorem resAll_sound (hX : XOk X) {nt : Nat} {s : AS} {a : Act} (hs : SRep X nt S s a N w) : ∀ {rs : List ResultVar} {tvs : List TV}, resAll X s rs = some tvs →
    ∃ us : List Value, (rs.mapM (fun | .tmp t => pure (a.tmps.getD t undef) | .cell b t => do loadVar t (← asAddr (a.tmps.getD b undef)) : ResultVar → Sem Value)).run X.P w = .ok us w ∧ RepTL N S w tvs us
  | [], tvs, h => by cases h; exact ⟨[], by simp, rfl, fun i x v hx => by simp at hx⟩
  | r :: rs, tvs, h => by
    simp only [resAll] at h
    split at h
    · rename_i v vs hv hvs
      cases h
      obtain ⟨us, h1, h2⟩ := resAll_sound hX hs hvs
      have key : ∃ u, ((fun | .tmp t => pure (a.tmps.getD t undef) | .cell b t => do loadVar t (← asAddr (a.tmps.getD b undef)) : ResultVar → Sem Value) r).run X.P w = .ok u w ∧ RepT N S w v u := by
        cases r with
        | tmp t =>
          cases hv
          exact ⟨a.tmps.getD t undef, by simp, hs.t t⟩
        | cell b t =>
          simp only [resTV] at hv
          split at hv
          · rename_i tv hl
            cases hv
            exact aLoad_value hX hs.hr hl (hs.t b)
          · cases hv
      obtain ⟨u, h3, h4⟩ := key
      refine ⟨u :: us, ?_, by simp [h2.1], fun i x v hx hv => ?_⟩
      · rw [List.mapM_cons]
        simp only [Sem.run_bind] at h3 ⊢
        rw [h3]
        simp only [Result.andThen_ok, h1, Sem.run_pure]
      · cases i with
        | zero => simp at hx hv; subst hx hv; exact h4
        | succ i => exact h2.2 i x v (by simpa using hx) (by simpa using hv)
    · cases h

theorem one_rep {tvs : List TV} {us : List Value} (h : RepTL N S w tvs us) : RepT N S w (one tvs) (if h : us.toArray.size = 1 then us.toArray[0] else .tuple us.toArray) := by
  match tvs, us, h with
  | [x], [u], h => exact h.2 0 x u rfl rfl
  | [], [], h => exact .tup _ _ rfl fun i x v hx => by simp at hx
  | x :: y :: r, u :: v :: q, h => exact .tup _ _ (by simpa using h.1) fun i a b ha hb => h.2 i a b ha (by simpa using hb)
  | [], _ :: _, h => exact absurd h.1 (by simp)
  | _ :: _, [], h => exact absurd h.1 (by simp)
  | [_], _ :: _ :: _, h => exact absurd h.1 (by simp)
  | _ :: _ :: _, [_], h => exact absurd h.1 (by simp)

theorem results_run {P : Program} {fn : Func} {tm : Array Value} {us : List Value}
    (h : (fn.results.toList.mapM (fun | .tmp t => pure (tm.getD t undef) | .cell b t => do loadVar t (← asAddr (tm.getD b undef)) : ResultVar → Sem Value)).run P w = .ok us w) :
    (results fn tm).run P w = .ok (if h : us.toArray.size = 1 then us.toArray[0] else .tuple us.toArray) w := by
  unfold results
  rw [Array.mapM_eq_mapM_toList]
  simp only [Sem.run_bind, Sem.run_map]
  refine (congrArg (fun r : Result (List Value) => (r.andThen fun a w' => Result.ok a.toArray w').andThen fun a w' => Sem.run P (pure (if h : a.size = 1 then a[0] else Value.tuple a)) w') h).trans ?_
  simp only [Result.andThen_ok, Sem.run_pure]

theorem spec_of_den (hX : XOk X) {f : Nat} {fn : Func} (hf : X.P.funcs[f]? = some fn) (hn : (fn.name == "runtime.NumGoroutine") = false) {H : Heap} {args : List TV} {Q : Heap → TV → Prop} (h : Den X fn H args Q) : Spec X f H args Q := by
  unfold Den at h
  cases hb : fn.body with
  | none => rw [hb] at h; exact h.elim
  | some c =>
  rw [hb] at h
  simp only at h
  obtain ⟨hle, h⟩ := h
  have hle := Nat.le_of_ble_eq_true hle
  refine ⟨⟨fn, hf, hn, by rw [hb]; rfl⟩, fun N S w vs hnr hh hu hg ha => ?_⟩
  refine calls_of_wp hf hb (wp_mono (awp_sound hX fn.ntmps S N w c _ _ _ N w h ⟨hnr, hh, fun b hb => ?_, ?_, rfl, hg, start_rep ha⟩ (.refl N w)) ?_)
  · refine Classical.byContradiction fun hne => ?_
    have := hu b hne
    simp only at hb
    omega
  · simp only [Array.size_append, List.size_toArray, Array.size_replicate]
    rw [← ha.1]
    omega
  · have fin : ∀ (a' : Act) (w' : World) (s : AS) (N1 : Names), SRep X fn.ntmps S s a' N1 w' → Frm N w N1 w' → (match resAll X s fn.results.toList with | some vs => ARet Q s vs | none => False) →
        a'.defers = [] ∧ ∃ v, (results fn a'.tmps).run X.P w' = .ok v w' ∧ ∃ v' N' H' r, Ending.returned v = .returned v' ∧ Q H' r ∧ NR N' S w' ∧ HR N' S w' H' ∧ (∀ b, N' b ≠ .unused → b < 32) ∧ RepT N' S w' r v' ∧ WExt (owned N) w w' ∧ (∀ k, k < w.heap.size → owned N' k → owned N k) ∧ Fx N N' := by
      intro a' w' s N1 hs hfr hq
      split at hq
      · rename_i tvs htv
        obtain ⟨us, hrun, hrep⟩ := resAll_sound hX hs htv
        obtain ⟨ρ, H', ws, hv, hhh, hok, hqq⟩ := hq
        simp only [Bool.and_eq_true] at hok
        obtain ⟨⟨⟨⟨hok, hd⟩, hbl⟩, hi⟩, hfo⟩ := hok
        refine ⟨hs.def_, _, results_run hrun, _, leN ρ N1 H', H', one ws, rfl, hqq, leN_nr hok hs.nr, fun c y hy => LeH.sound hok hs.nr hs.hr hhh (fun c x hx => hx) hd c y hy, fun b hb => ?_, one_rep (hv.sound hok hs.nr hs.hr hrep), hfr.ext, fun k hk ho => hfr.own k hk (leN_owned ho), hfr.fx.trans (leN_fx hfo)⟩
        refine Classical.byContradiction fun hge => hb (leN_unused (Nat.le_refl _) hbl hi (by omega))
      · exact hq.elim
    rintro e a' w' ⟨s, N1, h1, h2, h3⟩
    cases e with
    | normal => exact fin a' w' s N1 h1 h2 h3
    | ret => exact fin a' w' s N1 h1 h2 h3
    | exit id => exact h3.elim
    | goto l => exact h3.elim
    | panic ch => exact h3.elim
    | outgrown => exact h3.elim

def bdL (args : List TV) : Prop := ∀ x ∈ args, bdT 4 x

/-- No argument is longer than memory is wide. -/
theorem Spec.bounded {f : Nat} {H : Heap} {args : List TV} {Q : Heap → TV → Prop} (hok : callOk X.P f) (h : bdL args → bdH H → Spec X f H args Q) : Spec X f H args Q :=
  ⟨hok, fun N S w vs h1 h2 h3 h4 h5 => (h (fun x hx => by
    obtain ⟨i, hi, he⟩ := List.mem_iff_getElem.1 hx
    have hi' : i < vs.length := by rw [← h5.1]; exact hi
    exact bdT_of 4 (h5.2 i x _ (by rw [List.getElem?_eq_getElem hi, he]) (List.getElem?_eq_getElem hi'))) (bdH_of h2)).2 N S w vs h1 h2 h3 h4 h5⟩

theorem spec_walk (hX : XOk X) {f : Nat} (fn : Func) (hf : X.P.funcs[f]? = some fn) (hn : (fn.name == "runtime.NumGoroutine") = false) (hb : fn.body.isNone = false) {H : Heap} {args : List TV} {Q : Heap → TV → Prop} (h : bdL args → bdH H → Den X fn H args Q) : Spec X f H args Q :=
  Spec.bounded ⟨fn, hf, hn, hb⟩ fun h1 h2 => spec_of_den hX hf hn (h h1 h2)

/-- Arguments of which more is known. -/
inductive ArgLe : TV → TV → Prop
  | refl (x : TV) : ArgLe x x
  | any (x : TV) : ArgLe x .any
  | sl (k : EK) (l : List k.T) (c : CV) (h : asSl [] k c = some l) : ArgLe (.c c) (.c (.d (.sl k l)))
  | fit (k : EK) (cs : List CV) (x : k.T) (h : k.fit cs = some x) : ArgLe (.agg cs) (.agg ((k.enc x).map .d))

theorem ArgLe.sound {x y : TV} {v : Value} (h : ArgLe x y) (hr : RepT N S w x v) : RepT N S w y v := by
  cases h with
  | refl x => exact hr
  | any x => exact .any _
  | fit k cs x h => cases hr with | agg _ vs hr => exact .agg _ _ (repCL_d (fit_rep h hr))
  | sl k l c h =>
    cases hr with | c _ _ hr =>
    unfold asSl at h
    split at h
    · cases h
      have := (repC_lit hr).1
      subst this
      exact .c _ _ (.d _ _ (.slnil k none 0))
    · rename_i k' l'
      split at h
      · rename_i e
        subst e
        cases h
        exact .c _ _ hr
      · cases h
    · simp [hlook] at h
    · simp [hlook] at h
    · cases h

inductive ArgsLe : List TV → List TV → Prop
  | nil : ArgsLe [] []
  | cons (x y : TV) (xs ys : List TV) (h : ArgLe x y) (hs : ArgsLe xs ys) : ArgsLe (x :: xs) (y :: ys)

theorem ArgsLe.sound : ∀ {xs ys : List TV} {vs : List Value}, ArgsLe xs ys → RepTL N S w xs vs → RepTL N S w ys vs
  | _, _, _, .nil, hr => hr
  | _, _, vs, .cons x y xs ys h hs, hr => by
    cases vs with
    | nil => exact absurd hr.1 (by simp)
    | cons v us =>
      have h0 := h.sound (hr.2 0 x v rfl rfl)
      have ih := ArgsLe.sound hs (vs := us) ⟨by simpa using hr.1, fun i x v hx hv => hr.2 (i + 1) x v (by simpa using hx) (by simpa using hv)⟩
      refine ⟨by simp [ih.1], fun i a b ha hb => ?_⟩
      cases i with
      | zero => simp at ha hb; subst ha hb; exact h0
      | succ i => exact ih.2 i a b (by simpa using ha) (by simpa using hb)

theorem Spec.args {f : Nat} {H : Heap} {args args' : List TV} {Q : Heap → TV → Prop} (h : Spec X f H args' Q) (ha : ArgsLe args args') : Spec X f H args Q :=
  ⟨h.1, fun N S w vs h1 h2 h3 h4 h5 => h.2 N S w vs h1 h2 h3 h4 (ha.sound h5)⟩

/-- Where the caller's own blocks are none of the call's. -/
theorem Spec.weaken {f : Nat} {H : Heap} {args : List TV} {Q Q' : Heap → TV → Prop} (h : Spec X f H args Q) (hq : ∀ H r, Q H r → Q' H r) : Spec X f H args Q' :=
  ⟨h.1, fun N S w vs h1 h2 h3 h4 h5 => (h.2 N S w vs h1 h2 h3 h4 h5).mono fun e w' ⟨v, N', H', r, g1, g2, g3⟩ => ⟨v, N', H', r, g1, hq H' r g2, g3⟩⟩

end
end Go.Abs
