/- Slicing; lengths; functions; equality; what is left that leaves memory as it is. -/
import Derived.Test.YtlknhkocpjjkdaaAbsOps3
set_option linter.all false
set_option linter.unusedVariables false
set_option linter.unusedSimpArgs false
namespace Go.Abs
section
variable {X : Ctx} {N : Names} {S : Nat → Prop} {w : World}

/-- An operand that may be there. -/
def intO (a : Act) (x : Option Operand) (v : Option Int) : Prop :=
  match x, v with
  | none, none => True
  | some x, some i => ∃ k, a.eval x = .int k i
  | _, _ => False

theorem oInt_intO {a : Act} {ρ : Operand → TV} (hρ : ∀ x, RepT N S w (ρ x) (a.eval x)) {x : Option Operand} {v : Option Int} (h : oInt (x.map ρ) = some v) : intO a x v := by
  cases x with
  | none => simp [oInt] at h; subst h; trivial
  | some x =>
    simp only [Option.map_some] at h
    have hr := hρ x
    generalize ρ x = tv at h hr
    unfold oInt at h
    split at h
    · rename_i he; cases he
    · rename_i k i he
      cases he
      cases h
      exact ⟨k, rep_lit hr⟩
    · cases h

theorem run_bound {P : Program} (w : World) {v : Value} {k : IntKind} {i : Int} {y : Nat} {c : BoundsCode} (hv : v = .int k i) (h0 : 0 ≤ i) (h1 : i ≤ y) : (Instr.sliceBound v y c).run P w = .ok i.toNat w := by
  subst hv
  simp [Instr.sliceBound, asIntOf, h0, h1]

theorem run_bounds {P : Program} (w : World) {a : Act} {len cap : Nat} {lo hi mx : Option Operand} {l h m : Option Int} (h1 : intO a lo l) (h2 : intO a hi h) (h3 : intO a mx m) (q0 : 0 ≤ l.getD 0) (q1 : l.getD 0 ≤ h.getD len)
    (q2 : h.getD len ≤ m.getD cap) (q3 : m.getD cap ≤ cap) (q4 : h = none → m = none) :
    (Instr.sliceBounds true len cap (lo.map a.eval) (hi.map a.eval) (mx.map a.eval)).run P w = .ok ((l.getD 0).toNat, (h.getD len).toNat, (m.getD cap).toNat) w := by
  cases mx with
  | none =>
    cases m with
    | some m => exact h3.elim
    | none =>
      simp only [Option.getD_none] at q2 q3
      cases hi with
      | none =>
        cases h with
        | some h => exact h2.elim
        | none =>
          cases lo with
          | none =>
            cases l with
            | some l => exact h1.elim
            | none => simp [Instr.sliceBounds]
          | some lo =>
            cases l with
            | none => exact h1.elim
            | some l =>
              obtain ⟨k1, e1⟩ := h1
              simp only [Option.getD_some, Option.getD_none] at q0 q1
              have b1 : ∀ c, (Instr.sliceBound (a.eval lo) len c).run P w = .ok l.toNat w := fun c => run_bound w e1 q0 q1
              simp [Instr.sliceBounds, b1]
      | some hi =>
        cases h with
        | none => exact h2.elim
        | some h =>
          obtain ⟨k2, e2⟩ := h2
          simp only [Option.getD_some] at q1 q2
          have b2 : ∀ c, (Instr.sliceBound (a.eval hi) cap c).run P w = .ok h.toNat w := fun c => run_bound w e2 (by omega) q2
          cases lo with
          | none =>
            cases l with
            | some l => exact h1.elim
            | none => simp [Instr.sliceBounds, b2]
          | some lo =>
            cases l with
            | none => exact h1.elim
            | some l =>
              obtain ⟨k1, e1⟩ := h1
              simp only [Option.getD_some] at q0 q1
              have b1 : ∀ c, (Instr.sliceBound (a.eval lo) h.toNat c).run P w = .ok l.toNat w := fun c => run_bound w e1 q0 (by omega)
              simp [Instr.sliceBounds, b1, b2]
  | some mx =>
    cases m with
    | none => exact h3.elim
    | some m =>
      obtain ⟨k3, e3⟩ := h3
      simp only [Option.getD_some] at q2 q3
      cases hi with
      | none =>
        cases h with
        | some h => exact h2.elim
        | none => cases q4 rfl
      | some hi =>
        cases h with
        | none => exact h2.elim
        | some h =>
          obtain ⟨k2, e2⟩ := h2
          simp only [Option.getD_some] at q1 q2
          have h0 : 0 ≤ h := by omega
          have b3 : ∀ c, (Instr.sliceBound (a.eval mx) cap c).run P w = .ok m.toNat w := fun c => run_bound w e3 (by omega) q3
          have b2 : ∀ c, (Instr.sliceBound (a.eval hi) m.toNat c).run P w = .ok h.toNat w := fun c => run_bound w e2 h0 (by omega)
          cases lo with
          | none =>
            cases l with
            | some l => exact h1.elim
            | none => simp [Instr.sliceBounds, b2, b3]
          | some lo =>
            cases l with
            | none => exact h1.elim
            | some l =>
              obtain ⟨k1, e1⟩ := h1
              simp only [Option.getD_some] at q0 q1
              have b1 : ∀ c, (Instr.sliceBound (a.eval lo) h.toNat c).run P w = .ok l.toNat w := fun c => run_bound w e1 q0 (by omega)
              simp [Instr.sliceBounds, b1, b2, b3]

end
end Go.Abs
