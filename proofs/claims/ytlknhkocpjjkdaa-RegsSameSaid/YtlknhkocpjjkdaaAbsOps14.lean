/- Equality; functions and calls; all operations together. -/
import Derived.Test.YtlknhkocpjjkdaaAbsOps13
set_option linter.all false
set_option linter.unusedVariables false
set_option linter.unusedSimpArgs false
namespace Go.Abs
section
variable {X : Ctx} {N : Names} {S : Nat → Prop} {w : World}

theorem run_eql {P : Program} {t : Nat} {x y : Value} {b : Bool} (h1 : ∀ k n, x ≠ .int k n) (h2 : ∀ k n, x ≠ .float k n) (h3 : ∀ k n m, x ≠ .complex k n m) (h4 : ∀ s, x ≠ .string s) (h : (Op.equal t x y).run P w = .ok b w) : (binOp .eql t x y).run P w = .ok (.bool b) w := by
  unfold binOp
  split <;> first | (exact absurd rfl (h1 _ _)) | (exact absurd rfl (h2 _ _)) | (exact absurd rfl (h3 _ _ _)) | (exact absurd rfl (h4 _)) | simp_all

theorem run_neq {P : Program} {t : Nat} {x y : Value} {b : Bool} (h1 : ∀ k n, x ≠ .int k n) (h2 : ∀ k n, x ≠ .float k n) (h3 : ∀ k n m, x ≠ .complex k n m) (h4 : ∀ s, x ≠ .string s) (h : (Op.equal t x y).run P w = .ok b w) : (binOp .neq t x y).run P w = .ok (.bool (!b)) w := by
  unfold binOp
  split <;> first | (exact absurd rfl (h1 _ _)) | (exact absurd rfl (h2 _ _)) | (exact absurd rfl (h3 _ _ _)) | (exact absurd rfl (h4 _)) | simp_all

/-- What equality comes to, and inequality with it. -/
def EqRun (P : Program) (N : Names) (S : Nat → Prop) (w : World) (t : Nat) (u v : Value) (r : ER) : Prop :=
  match r with
  | .ok (.c (.d (.lit (.bool b)))) [] => (Op.equal t u v).run P w = .ok b w
  | .dem p => ∃ b, p b ∧ (Op.equal t u v).run P w = .ok b w
  | .bad => True
  | _ => False

theorem run_equalIn_nil {P : Program} (d : Nat) {t e : Nat} (h : P.underlying t = some (.slice e)) (s : Option Addr) (n c : Nat) : (Op.equalIn (d + 1) t (.slice s n c) (.slice none 0 0)).run P w = .ok s.isNone w := by
  cases s <;> simp [Op.equalIn, run_underlying h]

theorem aEq_run (hX : XOk X) {h : Heap} (hh : HR N S w h) {t : Nat} {x y : TV} {u v : Value} (hx : RepT N S w x u) (hy : RepT N S w y v) : EqRun X.P N S w t u v (aEq h (X.ty t) x y) := by
  have slcRun : ∀ {e : Nat} (s : Option Addr) (n c : Nat), (X.ty t).k = .slc e → (Op.equal t (.slice s n c) (.slice none 0 0)).run X.P w = .ok s.isNone w := by
    intro e s n c hk
    exact run_equalIn_nil 9999 (und_slc hX hk) s n c
  unfold aEq
  split
  · split
    · rename_i a b _ hk
      rw [rep_lit hx, rep_lit hy]
      exact run_equal_bool w t a b (und_bool hX hk)
    · trivial
  · split
    · rename_i _ e hk
      rw [rep_lit hx, rep_lit hy]
      exact slcRun none 0 0 hk
    · trivial
  · split
    · rename_i k l _ e hk
      rw [rep_lit hy]
      cases rep_d hx with
      | slnil _ s c => exact ⟨_, fun _ => rfl, slcRun s 0 c hk⟩
      | sl _ _ ad c vs _ _ _ _ _ _ _ => exact ⟨_, by simp, slcRun (some ad) _ c hk⟩
    · trivial
  · rename_i b
    split
    · rename_i e k l hk hb
      rw [rep_lit hy]
      have hbr := (hh b _ hb).2
      cases hx with | c _ _ hx =>
      rcases hbr with ⟨hn, hl⟩ | ⟨r, _, _, h1, _⟩
      · cases hx with
        | own0 _ s _ => exact ⟨_, fun _ => hl, slcRun s 0 0 hk⟩
        | own _ r hr => rw [hn] at hr; cases hr
        | ownD _ _ hd _ => rw [hn] at hd; cases hd
      · cases hx with
        | own0 _ s hd => rw [h1] at hd; cases hd
        | ownD _ _ hd _ => rw [h1] at hd; cases hd
        | own _ r' hr => exact ⟨_, by simp, slcRun _ _ _ hk⟩
    · trivial
  · rename_i xs ys
    cases hq : ((X.ty t).eqf && (X.ty t).ok && likeZ (X.ty t).zero xs) with
    | false => trivial
    | true =>
      simp only [Bool.and_eq_true] at hq
      simp only [cond_true]
      split
      · rename_i b hb
        cases hx with | agg _ vs hx =>
        cases hy with | agg _ us hy =>
        exact ((hX.ty t hq.1.2).eqf hq.1.1 w xs ys vs us b N S hb hx hy hq.2).1
      · trivial
  · trivial

theorem eq_exec {P : Program} {a : Act} {o : Oper} {t u : Nat} {x y : Operand} (ho : o.op = .binOp .eql t x y u) {b : Bool} (hg : (eqGuard .eql t x y (a.eval x) (a.eval y)).run P w = .ok () w) (h : (binOp .eql t (a.eval x) (a.eval y)).run P w = .ok (.bool b) w) :
    (execOp a.eval o).run P w = .ok (.value (.bool b)) w := by
  rw [run_bin ho]
  simp [hg, h]

theorem neq_exec {P : Program} {a : Act} {o : Oper} {t u : Nat} {x y : Operand} (ho : o.op = .binOp .neq t x y u) {b : Bool} (hg : (eqGuard .neq t x y (a.eval x) (a.eval y)).run P w = .ok () w) (h : (binOp .neq t (a.eval x) (a.eval y)).run P w = .ok (.bool b) w) :
    (execOp a.eval o).run P w = .ok (.value (.bool b)) w := by
  rw [run_bin ho]
  simp [hg, h]

/-- The guard of an equality says nothing where aEq speaks. -/
theorem guard_ok (hX : XOk X) {h : Heap} (hh : HR N S w h) {t : Nat} {x y : TV} {u v : Value} (hx : RepT N S w x u) (hy : RepT N S w y v) (hb : aEq h (X.ty t) x y ≠ .bad) (op : BinOp) (ox oy : Operand) : (eqGuard op t ox oy u v).run X.P w = .ok () w := by
  unfold aEq at hb
  split at hb
  · rw [rep_lit hx]; simp [eqGuard_at_bool]
  · rw [rep_lit hx]; simp [eqGuard_at_slice]
  · cases rep_d hx <;> simp [eqGuard_at_slice]
  · rename_i b
    cases hx with | c _ _ hx =>
    split at hb
    · rename_i e k l hk hl
      cases hx with
      | own0 _ s _ => simp [eqGuard_at_slice]
      | own _ r hr => simp [eqGuard_at_slice]
      | ownD _ _ hd _ =>
        rcases (hh b _ hl).2 with ⟨hn, _⟩ | ⟨r, _, _, h1, _⟩
        · rw [hn] at hd; cases hd
        · rw [h1] at hd; cases hd
    · exact absurd rfl hb
  · rename_i xs ys
    cases hq : ((X.ty t).eqf && (X.ty t).ok && likeZ (X.ty t).zero xs) with
    | false => rw [hq] at hb; exact absurd rfl hb
    | true =>
      rw [hq] at hb
      simp only [Bool.and_eq_true] at hq
      simp only [cond_true] at hb
      split at hb
      · rename_i b hb'
        cases hx with | agg _ vs hx =>
        cases hy with | agg _ us hy =>
        exact run_eqGuard_agg w op t ox oy vs us ((hX.ty t hq.1.2).eqf hq.1.1 w xs ys vs us b N S hb' hx hy hq.2).2
      · exact absurd rfl hb
  · exact absurd rfl hb

theorem notInt {t : Nat} {h : Heap} (hh : HR N S w h) {x y : TV} {u : Value} (hx : RepT N S w x u) (hb : aEq h (X.ty t) x y ≠ .bad) :
    (∀ k n, u ≠ .int k n) ∧ (∀ k n, u ≠ .float k n) ∧ (∀ k n m, u ≠ .complex k n m) ∧ (∀ s, u ≠ .string s) := by
  unfold aEq at hb
  split at hb
  · rw [rep_lit hx]; simp
  · rw [rep_lit hx]; simp
  · cases rep_d hx <;> simp
  · rename_i b
    cases hx with | c _ _ hx =>
    split at hb
    · rename_i e k l hk hl
      cases hx with
      | own0 _ s _ => simp
      | own _ r hr => simp
      | ownD _ _ hd _ =>
        rcases (hh b _ hl).2 with ⟨hn, _⟩ | ⟨r, _, _, h1, _⟩
        · rw [hn] at hd; cases hd
        · rw [h1] at hd; cases hd
    · exact absurd rfl hb
  · cases hx with | agg _ vs hx => simp
  · exact absurd rfl hb

theorem aBin_sound (hX : XOk X) (hnr : NR N S w) {h : Heap} (hh : HR N S w h) {a : Act} {o : Oper} {op : BinOp} {t u : Nat} {x y : Operand} (ho : o.op = .binOp op t x y u) {p q : TV} (hp : RepT N S w p (a.eval x)) (hq : RepT N S w q (a.eval y)) :
    (aBin h (X.ty t) op p q).Sound X.P N S w (execOp a.eval o) := by
  have eqMain : ∀ (neg : Bool), (neg = false → op = .eql) → (neg = true → op = .neq) → (noteq neg (aEq h (X.ty t) p q)).Sound X.P N S w (execOp a.eval o) := by
    intro neg h0 h1
    by_cases hb : aEq h (X.ty t) p q = .bad
    · rw [hb]; cases neg <;> trivial
    · have hg := guard_ok hX hh hp hq hb op x y
      have hrun := aEq_run hX hh (t := t) hp hq
      have hni' := notInt (X := X) (w := w) hh hp hb
      obtain ⟨n1, n2, n3, n4⟩ := hni'
      generalize aEq h (X.ty t) p q = r at hrun hb
      unfold EqRun at hrun
      split at hrun
      · rename_i b
        cases neg with
        | false =>
          have e := h0 rfl
          subst e
          exact goes_pure hnr (eq_exec ho hg (run_eql n1 n2 n3 n4 hrun)) (rep_mk rfl)
        | true =>
          have e := h1 rfl
          subst e
          exact goes_pure hnr (neq_exec ho hg (run_neq n1 n2 n3 n4 hrun)) (rep_mk rfl)
      · rename_i pp
        obtain ⟨b, hb1, hb2⟩ := hrun
        cases neg with
        | false =>
          have e := h0 rfl
          subst e
          exact ⟨b, hb1, eq_exec ho hg (run_eql n1 n2 n3 n4 hb2)⟩
        | true =>
          have e := h1 rfl
          subst e
          exact ⟨!b, by simpa using hb1, neq_exec ho hg (run_neq n1 n2 n3 n4 hb2)⟩
      · exact absurd rfl hb
      · exact hrun.elim
  unfold aBin
  split
  · rename_i k i k' j
    have e1 := rep_lit hp
    have e2 := rep_lit hq
    split
    · exact aShift_sound hnr ho e1 e2
    · exact aShift_sound hnr ho e1 e2
    · cases hk : decide (k = k') with
      | false => trivial
      | true =>
        have := of_decide_eq_true hk
        subst this
        exact aInt_sound hnr ho e1 e2
  · split
    · exact eqMain false (fun _ => rfl) (fun h => by cases h)
    · exact eqMain true (fun h => by cases h) (fun _ => rfl)
    · trivial

theorem cvs_rep {xs : List TV} {cs : List CV} {vs : List Value} (h : cvs xs = some cs) (hl : xs.length = vs.length) (hr : ∀ (i : Nat) (x : TV) (v : Value), xs[i]? = some x → vs[i]? = some v → RepT N S w x v) :
    RepCL N S w cs vs := by
  induction xs generalizing cs vs with
  | nil =>
    simp only [cvs, Option.some.injEq] at h
    subst h
    have : vs = [] := List.eq_nil_of_length_eq_zero hl.symm
    subst this
    exact ⟨rfl, fun i x v hx => by simp at hx⟩
  | cons x r ih =>
    cases vs with
    | nil => simp at hl
    | cons v us =>
      cases x with
      | c y =>
        simp only [cvs, Option.map_eq_some_iff] at h
        obtain ⟨cs', h1, rfl⟩ := h
        have h2 := ih h1 (by simpa using hl) (fun i x v hx hv => hr (i + 1) x v (by simpa using hx) (by simpa using hv))
        have h3 : RepC N S w y v := by cases hr 0 (.c y) v rfl rfl with | c _ _ h => exact h
        refine ⟨by simp [h2.1], fun i x u hx hu => ?_⟩
        cases i with
        | zero => simp at hx hu; subst hx hu; exact h3
        | succ i => exact h2.2 i x u (by simpa using hx) (by simpa using hu)
      | _ => simp [cvs] at h

theorem repTL_append {xs ys : List TV} {vs us : List Value} (h : RepTL N S w xs vs) (h' : RepTL N S w ys us) : RepTL N S w (xs ++ ys) (vs ++ us) := by
  refine ⟨by simp [h.1, h'.1], fun i x v hx hv => ?_⟩
  rcases Nat.lt_or_ge i xs.length with hi | hi
  · rw [List.getElem?_append_left hi] at hx
    rw [List.getElem?_append_left (h.1 ▸ hi)] at hv
    exact h.2 i x v hx hv
  · rw [List.getElem?_append_right hi] at hx
    rw [List.getElem?_append_right (h.1 ▸ hi)] at hv
    exact h'.2 _ x v hx (h.1 ▸ hv)

theorem repTL_ops {lk : Nat → TV} {a : Act} (hρ : ∀ x, RepT N S w (X.opd lk x) (a.eval x)) (l : List Operand) : RepTL N S w (l.map (X.opd lk)) (l.map a.eval) := by
  refine ⟨by simp, fun i x v hx hv => ?_⟩
  simp only [List.getElem?_map, Option.map_eq_some_iff] at hx hv
  obtain ⟨y, hy, rfl⟩ := hx
  obtain ⟨z, hz, rfl⟩ := hv
  rw [hy] at hz
  cases hz
  exact hρ y

theorem repTL_c {xs : List CV} {vs : List Value} (h : RepCL N S w xs vs) : RepTL N S w (xs.map .c) vs := by
  refine ⟨by simp [h.1], fun i x v hx hv => ?_⟩
  simp only [List.getElem?_map, Option.map_eq_some_iff] at hx
  obtain ⟨y, hy, rfl⟩ := hx
  exact .c _ _ (h.2 i y v hy hv)

theorem repTL_d {xs : List DV} {vs : List Value} (h : RepL (OO N S) w xs vs) : RepTL N S w (xs.map fun x => .c (.d x)) vs := by
  have := repTL_c (repCL_d h)
  rw [List.map_map] at this
  exact this

/-- A call of a function. -/
theorem run_call {P : Program} {a : Act} {o : Oper} {c : Call} {g : Operand} (ho : o.op = .call c) (hc : c.callee = .value g) {f : Nat} {first caps : Array Value} (hg : a.eval g = .func (.func f) first caps) (hok : callOk P f) :
    (execOp a.eval o).run P w = .ok (.enter f ((first.toList ++ c.args.toList.map a.eval ++ caps.toList).toArray)) w := by
  obtain ⟨fn, h1, h2, h3⟩ := hok
  unfold execOp
  rw [ho]
  simp only [resolve, hc, hg, Deferred.ofValue, Sem.run_bind, Sem.run_pure, Result.andThen_ok, invoke, callFunc, run_program, h1, h2, h3, Bool.false_eq_true, if_false]
  congr 2
  apply Array.ext'
  simp

end
end Go.Abs
