/- Functions: what is shown of the body is so of the call. -/
import Derived.Test.YtlknhkocpjjkdaaAbsWp3
set_option linter.all false
set_option linter.unusedVariables false
set_option linter.unusedSimpArgs false
namespace Go.Abs
section
variable {X : Ctx} {N : Names} {S : Nat → Prop} {w : World}

theorem look_argT : ∀ (args : List TV) (k n : Nat), look .any (argT k args) n = if k ≤ n then (args[n - k]?).getD .any else .any
  | [], k, n => by simp [argT, look]
  | x :: r, k, n => by
    simp only [argT, look]
    cases hb : Nat.beq k n with
    | true =>
      have := Nat.eq_of_beq_eq_true hb
      subst this
      simp
    | false =>
      simp only [cond_false]
      have hne : k ≠ n := fun e => by subst e; simp at hb
      rw [look_argT r (k + 1) n]
      by_cases hk : k ≤ n
      · have h1 : k + 1 ≤ n := by omega
        have h2 : n - k = (n - (k + 1)) + 1 := by omega
        rw [if_pos h1, if_pos hk, h2, List.getElem?_cons_succ]
      · rw [if_neg (by omega), if_neg hk]

theorem start_rep {nt : Nat} {args : List TV} {vs : List Value} (h : RepTL N S w args vs) (n : Nat) :
    RepT N S w (look .any (argT 0 args) n) (Act.eval { tmps := vs.toArray ++ Array.replicate (nt - vs.toArray.size) undef, defers := [] } (.tmp n)) := by
  rw [look_argT, if_pos (Nat.zero_le n), Nat.sub_zero]
  cases hx : args[n]? with
  | none => exact .any _
  | some x =>
    have hlt : n < vs.length := by rw [← h.1]; exact (List.getElem?_eq_some_iff.1 hx).1
    have hv : vs[n]? = some vs[n] := List.getElem?_eq_getElem hlt
    have e : Act.eval { tmps := vs.toArray ++ Array.replicate (nt - vs.toArray.size) undef, defers := [] } (.tmp n) = vs[n] := by
      simp only [Act.eval]
      rw [Array.getD_eq_getD_getElem?, Array.getElem?_append_left (by simpa using hlt)]
      simp [hlt]
    rw [e]
    exact h.2 n x _ hx hv

theorem aLoad_value (hX : XOk X) {h : Heap} (hh : HR N S w h) {t : Nat} {p tv : TV} {v : Value} (hl : aLoad X h t p = .ok tv []) (hp : RepT N S w p v) :
    ∃ u, (do loadVar t (← asAddr v) : Sem Value).run X.P w = .ok u w ∧ RepT N S w tv u := by
  unfold aLoad at hl
  split at hl
  · rename_i p
    split at hl
    · rename_i cs hr
      cases hc : ((X.ty t).ok && Nat.beq cs.length (X.ty t).size) with
      | false => rw [hc] at hl; cases hl
      | true =>
        rw [hc] at hl
        simp only [Bool.and_eq_true] at hc
        have hlen := Nat.eq_of_beq_eq_true hc.2
        cases hro : readOb h p with
        | some q => rw [hro] at hl; simp [ER.need] at hl
        | none =>
          rw [hro] at hl
          simp only [cond_true, ER.need, ER.ok.injEq, and_true] at hl
          subst hl
          have hp' : RepC N S w p v := by cases hp with | c _ _ h => exact h
          obtain ⟨ad, vs, hv, hs, hca, hrep⟩ := readAt_rep hh hp' hr hlen (by rw [hro]; simp)
          refine ⟨_, ?_, rep_ofCells hrep⟩
          subst hv
          simp only [asAddr, Sem.run_bind, Sem.run_pure, Result.andThen_ok]
          exact run_loadVar (hX := hX) hc.1 ad hs vs (by rw [← hrep.1]; exact hlen) hca (size_one hX hc.1)
    · cases hl
  · cases hl

theorem resAll_sound (hX : XOk X) {nt : Nat} {s : AS} {a : Act} (hs : SRep X nt S s a N w) : ∀ {rs : List ResultVar} {tvs : List TV}, resAll X s rs = some tvs →
    ∃ us : List Value, (rs.mapM (fun | .tmp t => pure (a.tmps.getD t undef) | .cell b t => do loadVar t (← asAddr (a.tmps.getD b undef)) : ResultVar → Sem Value)).run X.P w = .ok us w ∧ RepTL N S w tvs us
  | [], tvs, h => by cases h; exact ⟨[], by simp, rfl, fun i x v hx => by simp at hx⟩
  | r :: rs, tvs, h => by
    simp only [resAll] at h
    split at h
    · rename_i v vs hv hvs
      cases h
      obtain ⟨us, h1, h2⟩ := resAll_sound hX hs hvs
      have key : ∃ u, ((fun | .tmp t => pure (a.tmps.getD t undef) | .cell b t => do loadVar t (← asAddr (a.tmps.getD b undef)) : ResultVar → Sem Value) r).run X.P w = .ok u w ∧ RepT N S w v u := by
        cases r with
        | tmp t =>
          cases hv
          exact ⟨a.tmps.getD t undef, by simp, hs.t t⟩
        | cell b t =>
          simp only [resTV] at hv
          split at hv
          · rename_i tv hl
            cases hv
            exact aLoad_value hX hs.hr hl (hs.t b)
          · cases hv
      obtain ⟨u, h3, h4⟩ := key
      refine ⟨u :: us, ?_, by simp [h2.1], fun i x v hx hv => ?_⟩
      · rw [List.mapM_cons]
        simp only [Sem.run_bind] at h3 ⊢
        rw [h3]
        simp only [Result.andThen_ok, h1, Sem.run_pure]
      · cases i with
        | zero => simp at hx hv; subst hx hv; exact h4
        | succ i => exact h2.2 i x v (by simpa using hx) (by simpa using hv)
    · cases h

theorem LeV.sound {ρ : List (Nat × Nat)} {h h' : Heap} (hok : okR ρ = true) (hnr : NR N S w) (hh : HR N S w h) : ∀ {xs ys : List TV} {vs : List Value}, LeV ρ h h' xs ys → RepTL N S w xs vs → RepTL (leN ρ N h') S w ys vs
  | _, _, _, .nil, hr => ⟨hr.1, fun i x v hx => by simp at hx⟩
  | _, _, vs, .cons x y xs ys h1 h2, hr => by
    cases vs with
    | nil => exact absurd hr.1 (by simp)
    | cons v us =>
      have hx := hr.2 0 x v rfl rfl
      have ih := LeV.sound hok hnr hh h2 (vs := us) ⟨by simpa using hr.1, fun i x v hx hv => hr.2 (i + 1) x v (by simpa using hx) (by simpa using hv)⟩
      refine ⟨by simp [ih.1], fun i a b ha hb => ?_⟩
      cases i with
      | zero => simp at ha hb; subst ha hb; exact h1.sound hok hnr hh hx
      | succ i => exact ih.2 i a b (by simpa using ha) (by simpa using hb)

theorem one_rep {tvs : List TV} {us : List Value} (h : RepTL N S w tvs us) : RepT N S w (one tvs) (if h : us.toArray.size = 1 then us.toArray[0] else .tuple us.toArray) := by
  match tvs, us, h with
  | [x], [u], h => exact h.2 0 x u rfl rfl
  | [], [], h => exact .tup _ _ rfl fun i x v hx => by simp at hx
  | x :: y :: r, u :: v :: q, h => exact .tup _ _ (by simpa using h.1) fun i a b ha hb => h.2 i a b ha (by simpa using hb)
  | [], _ :: _, h => exact absurd h.1 (by simp)
  | _ :: _, [], h => exact absurd h.1 (by simp)
  | [_], _ :: _ :: _, h => exact absurd h.1 (by simp)
  | _ :: _ :: _, [_], h => exact absurd h.1 (by simp)

theorem results_run {P : Program} {fn : Func} {tm : Array Value} {us : List Value}
    (h : (fn.results.toList.mapM (fun | .tmp t => pure (tm.getD t undef) | .cell b t => do loadVar t (← asAddr (tm.getD b undef)) : ResultVar → Sem Value)).run P w = .ok us w) :
    (results fn tm).run P w = .ok (if h : us.toArray.size = 1 then us.toArray[0] else .tuple us.toArray) w := by
  unfold results
  rw [Array.mapM_eq_mapM_toList]
  simp only [Sem.run_bind, Sem.run_map]
  refine (congrArg (fun r : Result (List Value) => (r.andThen fun a w' => Result.ok a.toArray w').andThen fun a w' => Sem.run P (pure (if h : a.size = 1 then a[0] else Value.tuple a)) w') h).trans ?_
  simp only [Result.andThen_ok, Sem.run_pure]

theorem spec_of_den (hX : XOk X) {f : Nat} {fn : Func} (hf : X.P.funcs[f]? = some fn) (hn : (fn.name == "runtime.NumGoroutine") = false) {H : Heap} {args : List TV} {Q : Heap → TV → Prop} (h : Den X fn H args Q) : Spec X f H args Q := by
  unfold Den at h
  cases hb : fn.body with
  | none => rw [hb] at h; exact h.elim
  | some c =>
  rw [hb] at h
  simp only at h
  obtain ⟨hle, h⟩ := h
  have hle := Nat.le_of_ble_eq_true hle
  refine ⟨⟨fn, hf, hn, by rw [hb]; rfl⟩, fun N S w vs hnr hh hu hg ha => ?_⟩
  refine calls_of_wp hf hb (wp_mono (awp_sound hX fn.ntmps S N w c _ _ _ N w h ⟨hnr, hh, fun b hb => ?_, ?_, rfl, hg, start_rep ha⟩ (.refl N w)) ?_)
  · refine Classical.byContradiction fun hne => ?_
    have := hu b hne
    simp only at hb
    omega
  · simp only [Array.size_append, List.size_toArray, Array.size_replicate]
    rw [← ha.1]
    omega
  · have fin : ∀ (a' : Act) (w' : World) (s : AS) (N1 : Names), SRep X fn.ntmps S s a' N1 w' → Frm N w N1 w' → (match resAll X s fn.results.toList with | some vs => ARet Q s vs | none => False) →
        a'.defers = [] ∧ ∃ v, (results fn a'.tmps).run X.P w' = .ok v w' ∧ ∃ v' N' H' r, Ending.returned v = .returned v' ∧ Q H' r ∧ NR N' S w' ∧ HR N' S w' H' ∧ (∀ b, N' b ≠ .unused → b < 32) ∧ RepT N' S w' r v' ∧ WExt (owned N) w w' ∧ (∀ k, k < w.heap.size → owned N' k → owned N k) := by
      intro a' w' s N1 hs hfr hq
      split at hq
      · rename_i tvs htv
        obtain ⟨us, hrun, hrep⟩ := resAll_sound hX hs htv
        obtain ⟨ρ, H', ws, hv, hhh, hok, hqq⟩ := hq
        simp only [Bool.and_eq_true] at hok
        obtain ⟨⟨⟨hok, hd⟩, hbl⟩, hi⟩ := hok
        refine ⟨hs.def_, _, results_run hrun, _, leN ρ N1 H', H', one ws, rfl, hqq, leN_nr hok hs.nr, fun c y hy => LeH.sound hok hs.nr hs.hr hhh (fun c x hx => hx) hd c y hy, fun b hb => ?_, one_rep (hv.sound hok hs.nr hs.hr hrep), hfr.ext, fun k hk ho => hfr.own k hk (leN_owned ho)⟩
        refine Classical.byContradiction fun hge => hb (leN_unused hbl hi (by omega))
      · exact hq.elim
    rintro e a' w' ⟨s, N1, h1, h2, h3⟩
    cases e with
    | normal => exact fin a' w' s N1 h1 h2 h3
    | ret => exact fin a' w' s N1 h1 h2 h3
    | exit id => exact h3.elim
    | goto l => exact h3.elim
    | panic ch => exact h3.elim
    | outgrown => exact h3.elim

def bdL (args : List TV) : Prop := ∀ x ∈ args, bdT 4 x

/-- No argument is longer than memory is wide. -/
theorem Spec.bounded {f : Nat} {H : Heap} {args : List TV} {Q : Heap → TV → Prop} (hok : callOk X.P f) (h : bdL args → bdH H → Spec X f H args Q) : Spec X f H args Q :=
  ⟨hok, fun N S w vs h1 h2 h3 h4 h5 => (h (fun x hx => by
    obtain ⟨i, hi, he⟩ := List.mem_iff_getElem.1 hx
    have hi' : i < vs.length := by rw [← h5.1]; exact hi
    exact bdT_of 4 (h5.2 i x _ (by rw [List.getElem?_eq_getElem hi, he]) (List.getElem?_eq_getElem hi'))) (bdH_of h2)).2 N S w vs h1 h2 h3 h4 h5⟩

theorem spec_walk (hX : XOk X) {f : Nat} (fn : Func) (hf : X.P.funcs[f]? = some fn) (hn : (fn.name == "runtime.NumGoroutine") = false) (hb : fn.body.isNone = false) {H : Heap} {args : List TV} {Q : Heap → TV → Prop} (h : bdL args → bdH H → Den X fn H args Q) : Spec X f H args Q :=
  Spec.bounded ⟨fn, hf, hn, hb⟩ fun h1 h2 => spec_of_den hX hf hn (h h1 h2)

/-- Arguments of which more is known. -/
inductive ArgLe : TV → TV → Prop
  | refl (x : TV) : ArgLe x x
  | any (x : TV) : ArgLe x .any
  | sl (k : EK) (l : List k.T) (c : CV) (h : asSl [] k c = some l) : ArgLe (.c c) (.c (.d (.sl k l)))
  | fit (k : EK) (cs : List CV) (x : k.T) (h : k.fit cs = some x) : ArgLe (.agg cs) (.agg ((k.enc x).map .d))

theorem ArgLe.sound {x y : TV} {v : Value} (h : ArgLe x y) (hr : RepT N S w x v) : RepT N S w y v := by
  cases h with
  | refl x => exact hr
  | any x => exact .any _
  | fit k cs x h => cases hr with | agg _ vs hr => exact .agg _ _ (repCL_d (fit_rep h hr))
  | sl k l c h =>
    cases hr with | c _ _ hr =>
    unfold asSl at h
    split at h
    · cases h
      have := (repC_lit hr).1
      subst this
      exact .c _ _ (.d _ _ (.slnil k none 0))
    · rename_i k' l'
      split at h
      · rename_i e
        subst e
        cases h
        exact .c _ _ hr
      · cases h
    · simp [hlook] at h
    · simp [hlook] at h
    · cases h

inductive ArgsLe : List TV → List TV → Prop
  | nil : ArgsLe [] []
  | cons (x y : TV) (xs ys : List TV) (h : ArgLe x y) (hs : ArgsLe xs ys) : ArgsLe (x :: xs) (y :: ys)

theorem ArgsLe.sound : ∀ {xs ys : List TV} {vs : List Value}, ArgsLe xs ys → RepTL N S w xs vs → RepTL N S w ys vs
  | _, _, _, .nil, hr => hr
  | _, _, vs, .cons x y xs ys h hs, hr => by
    cases vs with
    | nil => exact absurd hr.1 (by simp)
    | cons v us =>
      have h0 := h.sound (hr.2 0 x v rfl rfl)
      have ih := ArgsLe.sound hs (vs := us) ⟨by simpa using hr.1, fun i x v hx hv => hr.2 (i + 1) x v (by simpa using hx) (by simpa using hv)⟩
      refine ⟨by simp [ih.1], fun i a b ha hb => ?_⟩
      cases i with
      | zero => simp at ha hb; subst ha hb; exact h0
      | succ i => exact ih.2 i a b (by simpa using ha) (by simpa using hb)

theorem Spec.args {f : Nat} {H : Heap} {args args' : List TV} {Q : Heap → TV → Prop} (h : Spec X f H args' Q) (ha : ArgsLe args args') : Spec X f H args Q :=
  ⟨h.1, fun N S w vs h1 h2 h3 h4 h5 => h.2 N S w vs h1 h2 h3 h4 (ha.sound h5)⟩

/-- Where the caller's own blocks are none of the call's. -/
theorem Spec.weaken {f : Nat} {H : Heap} {args : List TV} {Q Q' : Heap → TV → Prop} (h : Spec X f H args Q) (hq : ∀ H r, Q H r → Q' H r) : Spec X f H args Q' :=
  ⟨h.1, fun N S w vs h1 h2 h3 h4 h5 => (h.2 N S w vs h1 h2 h3 h4 h5).mono fun e w' ⟨v, N', H', r, g1, g2, g3⟩ => ⟨v, N', H', r, g1, hq H' r g2, g3⟩⟩

end
end Go.Abs
