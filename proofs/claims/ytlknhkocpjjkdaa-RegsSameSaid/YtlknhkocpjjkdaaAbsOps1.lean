/- Each operation that leaves memory as it is comes to what is said of it. -/
import Derived.Test.YtlknhkocpjjkdaaAbsOps0
set_option linter.all false
set_option linter.unusedVariables false
set_option linter.unusedSimpArgs false
namespace Go.Abs

/-- What an operation's run comes to, held against what is said of it. -/
def OpGoes (P : Program) (N : Names) (S : Nat → Prop) (w : World) (s : Sem Next) (tv : TV) (δ : Heap) : Prop :=
  ∃ v w' N', (s.run P w = .ok (.value v) w' ∨ (s.run P w = .ok .skip w' ∧ v = undef)) ∧ RepT N' S w' tv v ∧ Step N S w N' w' δ

/-- The function is one that is entered. -/
def callOk (P : Program) (f : Nat) : Prop := ∃ fn, P.funcs[f]? = some fn ∧ (fn.name == "runtime.NumGoroutine") = false ∧ fn.body.isNone = false

def RepTL (N : Names) (S : Nat → Prop) (w : World) (xs : List TV) (vs : List Value) : Prop :=
  xs.length = vs.length ∧ ∀ (i : Nat) (x : TV) (v : Value), xs[i]? = some x → vs[i]? = some v → RepT N S w x v

def ER.Sound (P : Program) (N : Names) (S : Nat → Prop) (w : World) (s : Sem Next) : ER → Prop
  | .ok tv δ => OpGoes P N S w s tv δ
  | .ob p tv δ => p → OpGoes P N S w s tv δ
  | .dem p => ∃ b, p b ∧ s.run P w = .ok (.value (.bool b)) w
  | .call f args => callOk P f → ∃ vs, s.run P w = .ok (.enter f vs.toArray) w ∧ RepTL N S w args vs
  | .bad => True

section
variable {X : Ctx} {N : Names} {S : Nat → Prop} {w : World}

theorem goes_pure {P : Program} (hnr : NR N S w) {s : Sem Next} {tv : TV} {v : Value} (h : s.run P w = .ok (.value v) w) (hr : RepT N S w tv v) : OpGoes P N S w s tv [] :=
  ⟨v, w, N, .inl h, hr, .nop hnr⟩

theorem rep_d {x : DV} {v : Value} (h : RepT N S w (.c (.d x)) v) : Rep (OO N S) w x v := by
  cases h with | c _ _ h => cases h with | d _ _ h => exact h

theorem repC_lit {u v : Value} (h : RepC N S w (.d (.lit u)) v) : v = u ∧ v.oneCell' = true := by
  cases h with | d _ _ h => cases h with | lit _ h => exact ⟨rfl, h⟩

theorem rep_lit {u v : Value} (h : RepT N S w (.c (.d (.lit u))) v) : v = u := by
  cases h with | c _ _ h => exact (repC_lit h).1

theorem rep_mk {v : Value} (h : v.oneCell' = true) : RepT N S w (.c (.d (.lit v))) v := .c _ _ (.d _ _ (.lit v h))

/-- The program's variables that are read. -/
def GOk (X : Ctx) (O : Nat → Prop) (w : World) : Prop := ∀ g xs, look none (X.gl.map fun (i, x) => (i, some x)) g = some xs → Rep O w (.rp xs) (.pointer (some ⟨g, 0, none⟩))

theorem rep_opd {a : Act} {lk : Nat → TV} (hlk : ∀ t, RepT N S w (lk t) (a.eval (.tmp t))) (hg : GOk X (OO N S) w) (o : Operand) : RepT N S w (X.opd lk o) (a.eval o) := by
  cases o with
  | tmp t => exact hlk t
  | const v =>
    cases v with
    | agg c => exact .any _
    | tuple c => exact .any _
    | _ => exact rep_mk rfl
  | global g =>
    simp only [Ctx.opd, Act.eval]
    split
    · rename_i xs hx
      exact .c _ _ (.d _ _ (hg g xs hx))
    · exact .any _
  | func f => exact .c _ _ (.d _ _ (.fn f [] [] #[] #[] rfl rfl (by intro i x v h; simp at h) (by intro i x v h; simp at h)))

/-! Numbers. -/
theorem run_bin {P : Program} {a : Act} {o : Oper} {op : BinOp} {t u : Nat} {x y : Operand} (ho : o.op = .binOp op t x y u) :
    (execOp a.eval o).run P w = (((do eqGuard op t x y (a.eval x) (a.eval y); binOp op t (a.eval x) (a.eval y) : Sem Value)).run P w).andThen fun v w' => .ok (.value v) w' := by
  unfold execOp
  rw [ho]
  simp only [Sem.run_bind, Sem.run_pure]

theorem aInt_sound {P : Program} (hnr : NR N S w) {a : Act} {o : Oper} {op : BinOp} {t u : Nat} {x y : Operand} (ho : o.op = .binOp op t x y u) {k : IntKind} {i j : Int}
    (hx : a.eval x = .int k i) (hy : a.eval y = .int k j) : (aInt op k i j).Sound P N S w (execOp a.eval o) := by
  have hr := run_bin (P := P) (w := w) (a := a) ho
  rw [hx, hy] at hr
  cases op <;> simp only [aInt, ER.Sound]
  case add => exact goes_pure hnr (by rw [hr]; simp [eqGuard_at_int, binOp_add, Op.intArith]) (rep_mk rfl)
  case sub => exact goes_pure hnr (by rw [hr]; simp [eqGuard_at_int, binOp_sub, Op.intArith]) (rep_mk rfl)
  case mul => exact goes_pure hnr (by rw [hr]; simp [eqGuard_at_int, binOp_mul, Op.intArith]) (rep_mk rfl)
  case quo => exact fun h => goes_pure hnr (by rw [hr]; simp [eqGuard_at_int, binOp_quo, Op.intDiv, h]) (rep_mk rfl)
  case rem => exact fun h => goes_pure hnr (by rw [hr]; simp [eqGuard_at_int, binOp_rem, Op.intDiv, h]) (rep_mk rfl)
  case and => exact goes_pure hnr (by rw [hr]; simp [eqGuard_at_int, binOp_and, Op.intBits]) (rep_mk rfl)
  case or => exact goes_pure hnr (by rw [hr]; simp [eqGuard_at_int, binOp_or, Op.intBits]) (rep_mk rfl)
  case xor => exact goes_pure hnr (by rw [hr]; simp [eqGuard_at_int, binOp_xor, Op.intBits]) (rep_mk rfl)
  case andNot => exact goes_pure hnr (by rw [hr]; simp [eqGuard_at_int, binOp_andNot, Op.intBits]) (rep_mk rfl)
  case eql => exact goes_pure hnr (by rw [hr]; simp [eqGuard_at_int, binOp_eql]) (rep_mk rfl)
  case neq => exact goes_pure hnr (by rw [hr]; simp [eqGuard_at_int, binOp_neq]) (rep_mk rfl)
  case lss => exact goes_pure hnr (by rw [hr]; simp [eqGuard_at_int, binOp_lss]) (rep_mk rfl)
  case leq => exact goes_pure hnr (by rw [hr]; simp [eqGuard_at_int, binOp_leq]) (rep_mk rfl)
  case gtr => exact goes_pure hnr (by rw [hr]; simp [eqGuard_at_int, binOp_gtr]) (rep_mk rfl)
  case geq => exact goes_pure hnr (by rw [hr]; simp [eqGuard_at_int, binOp_geq]) (rep_mk rfl)

theorem aShift_sound {P : Program} (hnr : NR N S w) {a : Act} {o : Oper} {op : BinOp} {t u : Nat} {x y : Operand} (ho : o.op = .binOp op t x y u) {k k' : IntKind} {i j : Int}
    (hx : a.eval x = .int k i) (hy : a.eval y = .int k' j) : (aShift op k i j).Sound P N S w (execOp a.eval o) := by
  have hr := run_bin (P := P) (w := w) (a := a) ho
  rw [hx, hy] at hr
  cases op <;> simp only [aShift, ER.Sound]
  case shl => exact fun h => goes_pure hnr (by rw [hr]; simp [eqGuard_at_int, binOp_shl, Op.shift, Int.not_lt.2 h]) (rep_mk rfl)
  case shr => exact fun h => goes_pure hnr (by rw [hr]; simp [eqGuard_at_int, binOp_shr, Op.shift, Int.not_lt.2 h]) (rep_mk rfl)

end
end Go.Abs
