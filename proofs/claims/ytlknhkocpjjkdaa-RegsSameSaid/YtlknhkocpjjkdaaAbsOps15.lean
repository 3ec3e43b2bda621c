/- All operations together. -/
import Derived.Test.YtlknhkocpjjkdaaAbsOps14
set_option linter.all false
set_option linter.unusedVariables false
set_option linter.unusedSimpArgs false
namespace Go.Abs
section
variable {X : Ctx} {N : Names} {S : Nat → Prop} {w : World}

theorem run_un {P : Program} {a : Act} {o : Oper} {op : UnOp} {t : Nat} {x : Operand} (ho : o.op = .unOp op t x) {v : Value} (h : (Op.unary op (a.eval x)).run P w = .ok v w) : (execOp a.eval o).run P w = .ok (.value v) w := by
  unfold execOp; rw [ho]; exact run_v h

theorem aConv_sound (hX : XOk X) (hnr : NR N S w) {a : Act} {o : Oper} {s t : Nat} {x : Operand} (ho : o.op = .convert s t x) {p : TV} (hp : RepT N S w p (a.eval x)) : (aConv X s t p).Sound X.P N S w (execOp a.eval o) := by
  unfold aConv
  split
  · rename_i ks k kv n hs ht
    refine goes_pure hnr ?_ (rep_mk rfl)
    unfold execOp; rw [ho]; refine run_v ?_
    rw [rep_lit hp]
    simp [convert, run_underlying (und_int hX hs), run_underlying (und_int hX ht), Conv.intToInt]
  · trivial

theorem map1 {α β : Type} {f : α → β} {l : List α} {p : β} (h : l.map f = [p]) : ∃ x, l = [x] ∧ f x = p := by
  rcases l with _ | ⟨x, _ | ⟨y, r⟩⟩
  · cases h
  · simp at h; exact ⟨x, rfl, h⟩
  · simp at h

theorem map2 {α β : Type} {f : α → β} {l : List α} {p q : β} (h : l.map f = [p, q]) : ∃ x y, l = [x, y] ∧ f x = p ∧ f y = q := by
  rcases l with _ | ⟨x, _ | ⟨y, _ | ⟨z, r⟩⟩⟩
  · cases h
  · simp at h
  · simp at h; exact ⟨x, y, rfl, h⟩
  · simp at h

theorem max_sound {b : Builtin} (hb : b = .max ∨ b = .min) (hnr : NR N S w) {lk : Nat → TV} {a : Act} (hρ : ∀ x, RepT N S w (X.opd lk x) (a.eval x)) {o : Oper} {c : Call} (ho : o.op = .call c) (hc : c.callee = .builtin b) :
    (match aMax b (c.args.toList.map (X.opd lk)) with | some (k, n) => ER.ok (.lit (.int k n)) [] | none => .bad).Sound X.P N S w (execOp a.eval o) := by
  split
  · rename_i k n h
    have hargs : ∃ v, (match b with | .max => Builtin.max_ c.argTypes o.type (c.args.map a.eval) | _ => Builtin.min_ c.argTypes o.type (c.args.map a.eval)).run X.P w = .ok v w ∧ v = .int k n := by
      have hl : (c.args.map a.eval).toList = c.args.toList.map a.eval := by simp
      generalize c.args.toList = l at h hl
      unfold aMax at h
      split at h
      · rename_i k' x hx
        cases h
        obtain ⟨y, rfl, hy⟩ := map1 hx
        have := hρ y
        rw [hy] at this
        have hy := rep_lit this
        simp only [List.map_cons, List.map_nil, hy] at hl
        rcases hb with rfl | rfl
        · exact ⟨_, by unfold Builtin.max_; rw [hl]; rfl, rfl⟩
        · exact ⟨_, by unfold Builtin.min_; rw [hl]; rfl, rfl⟩
      · rename_i k' x k'' y hx
        cases hk : decide (k' = k'') with
        | false => rw [hk] at h; cases h
        | true =>
          have e := of_decide_eq_true hk
          subst e
          rw [hk] at h
          simp only [cond_true, Option.some.injEq, Prod.mk.injEq] at h
          obtain ⟨y1, y2, rfl, hx1, hx2⟩ := map2 hx
          have h1 := hρ y1
          have h2 := hρ y2
          rw [hx1] at h1
          rw [hx2] at h2
          have e1 := rep_lit h1
          have e2 := rep_lit h2
          simp only [List.map_cons, List.map_nil, e1, e2] at hl
          obtain ⟨rfl, rfl⟩ := h
          rcases hb with rfl | rfl
          · exact ⟨_, by unfold Builtin.max_; rw [hl]; simp [Builtin.max2], rfl⟩
          · exact ⟨_, by unfold Builtin.min_; rw [hl]; simp [Builtin.min2], rfl⟩
      · cases h
    obtain ⟨v, hv, rfl⟩ := hargs
    refine goes_pure hnr ?_ (rep_mk rfl)
    unfold execOp; rw [ho]
    rcases hb with rfl | rfl
    · simp only [resolve, hc, Sem.run_bind, Sem.run_pure, Result.andThen_ok, invoke, builtin]
      simp only at hv
      rw [hv]
      rfl
    · simp only [resolve, hc, Sem.run_bind, Sem.run_pure, Result.andThen_ok, invoke, builtin]
      simp only at hv
      rw [hv]
      rfl
  · trivial

/-- WHAT IS SAID OF AN OPERATION IS SO. -/
theorem evalOp_sound (hX : XOk X) (hnr : NR N S w) {h : Heap} (hh : HR N S w h) (hg : GOk X (OO N S) w) {base : Nat} (hf : N base = .unused) {lk : Nat → TV} {a : Act} (hlk : ∀ t, RepT N S w (lk t) (a.eval (.tmp t))) (o : Oper) :
    (evalOp X lk h base o.op).Sound X.P N S w (execOp a.eval o) := by
  have hρ : ∀ x, RepT N S w (X.opd lk x) (a.eval x) := fun x => rep_opd hlk hg x
  unfold evalOp
  simp only
  split
  · rename_i x ho
    refine goes_pure hnr (v := a.eval x) ?_ (hρ x)
    unfold execOp; rw [ho]; simp
  · rename_i x ho
    refine goes_pure hnr (v := a.eval x) ?_ (hρ x)
    unfold execOp; rw [ho]; simp
  · rename_i t ho
    cases ht : (X.ty t).ok with
    | false => trivial
    | true => exact alloc_sound hX hnr hf ho ht
  · rename_i t x ho
    split
    · rename_i cs hc
      exact box_sound hnr hf ho (hρ x) hc
    · trivial
  · rename_i t ps ho
    exact aBuild_sound hX hnr hρ ho
  · rename_i t n ps ho
    exact aBuildSlice_sound hX hnr hf hρ ho
  · rename_i t x ho
    exact aLoad_sound hX hnr hh ho (hρ x)
  · rename_i t x y ho
    exact aStore_sound hX hnr hh ho (hρ x) (hρ y)
  · rename_i x ho
    have hx := hρ x
    split
    · rename_i b i off hp
      rw [hp] at hx
      cases hal : alive h b with
      | false => trivial
      | true =>
        cases hx with | c _ _ hx =>
        obtain ⟨r, hr, hv⟩ := repC_ptr hx (alive_ne hh hal)
        refine goes_pure hnr (v := a.eval x) ?_ (by rw [hv]; exact .c _ _ (.ptr b i off r hr))
        unfold execOp; rw [ho]
        simp [hv]
    · rename_i xs hp
      rw [hp] at hx
      generalize hv : a.eval x = v at hx
      refine goes_pure hnr (v := v) ?_ hx
      unfold execOp; rw [ho]
      simp only [hv]
      cases rep_d hx
      rfl
    · rename_i f1 a1 b1 hp
      rw [hp] at hx
      generalize hv : a.eval x = v at hx
      refine goes_pure hnr (v := v) ?_ hx
      unfold execOp; rw [ho]
      simp only [hv]
      cases rep_d hx
      rfl
    · rename_i f1 a1 b1 hp
      rw [hp] at hx
      generalize hv : a.eval x = v at hx
      refine goes_pure hnr (v := v) ?_ hx
      unfold execOp; rw [ho]
      simp only [hv]
      cases hx with | c _ _ hx =>
      cases hx
      rfl
    · trivial
  · rename_i op t x y u ho
    exact aBin_sound hX hnr hh ho (hρ x) (hρ y)
  · rename_i op t x ho
    have hx := hρ x
    split
    · rename_i b hp
      rw [hp] at hx
      exact goes_pure hnr (run_un ho (by rw [rep_lit hx]; rfl)) (rep_mk rfl)
    · rename_i k n hp
      rw [hp] at hx
      exact goes_pure hnr (run_un ho (by rw [rep_lit hx]; rfl)) (rep_mk rfl)
    · trivial
  · rename_i s t x ho
    exact aConv_sound hX hnr ho (hρ x)
  · rename_i f first caps ho
    split
    · rename_i l1 l2 h1 h2
      have r1 := cvs_rep (vs := first.toList.map a.eval) h1 (by simp) (repTL_ops hρ first.toList).2
      have r2 := cvs_rep (vs := caps.toList.map a.eval) h2 (by simp) (repTL_ops hρ caps.toList).2
      refine goes_pure hnr (v := .func (.func f) (first.map a.eval) (caps.map a.eval)) ?_ (.c _ _ (.cl f l1 l2 _ _ (by simpa using r1.1) (by simpa using r2.1) ?_ ?_))
      · unfold execOp; rw [ho]
        simp [Instr.makeFunc]
      · intro i x v hx hv
        exact r1.2 i x v hx (by simpa using hv)
      · intro i x v hx hv
        exact r2.2 i x v hx (by simpa using hv)
    · trivial
  · rename_i t x y ho
    exact aMake_sound hX hnr hf ho (hρ x) (hρ y)
  · rename_i t x lo hi mx ho
    exact aSlice_sound hX hnr hh hf hρ ho
  · rename_i t x f ho
    exact aFieldAddr_sound hX hnr hh ho (hρ x)
  · rename_i t x f ho
    exact aField_sound hX hnr ho (hρ x)
  · rename_i t x y ho
    exact aIndexAddr_sound hX hnr hh ho (hρ x) (hρ y)
  · rename_i t x y ho
    exact aIndex_sound hX hnr ho (hρ x) (hρ y)
  · rename_i x i ho
    have hx := hρ x
    split
    · rename_i vs hp
      rw [hp] at hx
      split
      · rename_i tv hi
        rw [lnth_get] at hi
        generalize hv : a.eval x = v at hx
        cases hx with | tup _ us hl hr =>
        have hlt : i < us.size := by
          rw [← hl]
          exact (List.getElem?_eq_some_iff.1 hi).1
        refine goes_pure hnr (v := us[i]) ?_ (hr i tv _ hi (Array.getElem?_eq_getElem hlt))
        unfold execOp; rw [ho]; refine run_v ?_
        rw [hv]
        simp [Instr.extract, hlt]
      · trivial
    · trivial
  · rename_i c ho
    split
    · rename_i g hc
      have hgv := hρ g
      split
      · rename_i f first caps hp
        rw [hp] at hgv
        intro hok
        generalize hv : a.eval g = v at hgv
        cases rep_d hgv with | fn _ _ _ vf vc hf hcc hrf hrc =>
        refine ⟨_, run_call ho hc hv hok, ?_⟩
        refine repTL_append (repTL_append (repTL_d ⟨by simpa using hf, ?_⟩) (repTL_ops hρ _)) (repTL_d ⟨by simpa using hcc, ?_⟩)
        · intro i x v hx hv; exact hrf i x v hx (by simpa using hv)
        · intro i x v hx hv; exact hrc i x v hx (by simpa using hv)
      · rename_i f first caps hp
        rw [hp] at hgv
        intro hok
        generalize hv : a.eval g = v at hgv
        cases hgv with | c _ _ hgv =>
        cases hgv with | cl _ _ _ vf vc hf hcc hrf hrc =>
        refine ⟨_, run_call ho hc hv hok, ?_⟩
        refine repTL_append (repTL_append (repTL_c ⟨by simpa using hf, ?_⟩) (repTL_ops hρ _)) (repTL_c ⟨by simpa using hcc, ?_⟩)
        · intro i x v hx hv; exact hrf i x v hx (by simpa using hv)
        · intro i x v hx hv; exact hrc i x v hx (by simpa using hv)
      · trivial
    · rename_i b hc
      have hcall : ∀ (b' : Builtin) (x : Operand) (t : Nat), b = b' → c.argTypes.toList = [t] → c.args.toList = [x] → o.op = .call { callee := .builtin b', args := #[x], argTypes := #[t] } := by
        intro b' x t e1 e2 e3
        rw [ho]
        cases c with | mk cc ca ct =>
        simp only at hc e2 e3 ⊢
        rw [hc, e1, ← Array.toArray_toList (xs := ca), ← Array.toArray_toList (xs := ct), e2, e3]
      have hcall2 : ∀ (b' : Builtin) (x y : Operand) (t u : Nat), b = b' → c.argTypes.toList = [t, u] → c.args.toList = [x, y] → o.op = .call { callee := .builtin b', args := #[x, y], argTypes := #[t, u] } := by
        intro b' x y t u e1 e2 e3
        rw [ho]
        cases c with | mk cc ca ct =>
        simp only at hc e2 e3 ⊢
        rw [hc, e1, ← Array.toArray_toList (xs := ca), ← Array.toArray_toList (xs := ct), e2, e3]
      have args1 : ∀ p, c.args.toList.map (X.opd lk) = [p] → ∃ x, c.args.toList = [x] ∧ p = X.opd lk x := by
        intro p hp
        obtain ⟨x, h1, h2⟩ := map1 hp
        exact ⟨x, h1, h2.symm⟩
      have args2 : ∀ p q, c.args.toList.map (X.opd lk) = [p, q] → ∃ x y, c.args.toList = [x, y] ∧ p = X.opd lk x ∧ q = X.opd lk y := by
        intro p q hp
        obtain ⟨x, y, h1, h2, h3⟩ := map2 hp
        exact ⟨x, y, h1, h2.symm, h3.symm⟩
      split
      · rename_i t p ht hp
        obtain ⟨x, hx, rfl⟩ := args1 p hp
        exact aLen_sound hX hnr hh (hcall _ x t rfl ht hx) (hρ x)
      · rename_i t u p q ht hp
        obtain ⟨x, y, hx, rfl, rfl⟩ := args2 p q hp
        split
        · rename_i e2 hk
          exact aAppend_sound hX hnr hh hf (hcall2 _ x y t u rfl ht hx) hk (hρ x) (hρ y)
        · trivial
      · rename_i t u p q ht hp
        obtain ⟨x, y, hx, rfl, rfl⟩ := args2 p q hp
        split
        · exact aCopy_sound hX hnr hh (hcall2 _ x y t u rfl ht hx) (hρ x) (hρ y)
        · trivial
      · rename_i t p ht hp
        obtain ⟨x, hx, rfl⟩ := args1 p hp
        exact aClear_sound hX hnr hh (hcall _ x t rfl ht hx) (hρ x)
      · exact max_sound (.inl rfl) hnr hρ ho hc
      · exact max_sound (.inr rfl) hnr hρ ho hc
      · trivial
    · trivial
  · trivial

end
end Go.Abs
