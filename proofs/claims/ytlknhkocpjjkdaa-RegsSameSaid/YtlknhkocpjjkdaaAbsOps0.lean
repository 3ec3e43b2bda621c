/- The table of types against the program's; small facts on cells, rows and words. -/
import Derived.Test.YtlknhkocpjjkdaaAbsRel
import Derived.Laws.Rows
import Derived.Laws.Tables
import Derived.Laws.CopyRow
import Derived.Laws.AppendOwn
set_option linter.all false
set_option linter.unusedVariables false
set_option linter.unusedSimpArgs false
namespace Go.Abs

def litSame : Value → DV → Bool
  | .bool a, .lit (.bool b) => a == b
  | .int k a, .lit (.int k' b) => decide (k = k') && (a == b)
  | .slice none 0 0, .lit (.slice none 0 0) => true
  | .nilFunc, .lit .nilFunc => true
  | .pointer none, .lit (.pointer none) => true
  | .map none, .lit (.map none) => true
  | .nilIface, .lit .nilIface => true
  | _, _ => false

theorem litSame_eq {v : Value} {d : DV} (h : litSame v d = true) : d = .lit v ∧ v.oneCell' = true := by
  unfold litSame at h
  split at h
  all_goals first | (exact ⟨rfl, rfl⟩) | (simp at h; done) | skip
  · simp at h; subst h; exact ⟨rfl, rfl⟩
  · simp at h; obtain ⟨rfl, rfl⟩ := h; exact ⟨rfl, rfl⟩

def litsSame : List Value → List DV → Bool
  | [], [] => true
  | v :: vs, d :: ds => litSame v d && litsSame vs ds
  | _, _ => false

theorem litsSame_eq : ∀ {vs : List Value} {ds : List DV}, litsSame vs ds = true → ds = vs.map .lit ∧ ∀ v ∈ vs, v.oneCell' = true
  | [], [], _ => ⟨rfl, by simp⟩
  | [], _ :: _, h => by simp [litsSame] at h
  | _ :: _, [], h => by simp [litsSame] at h
  | v :: vs, d :: ds, h => by
    simp only [litsSame, Bool.and_eq_true] at h
    obtain ⟨rfl, h1⟩ := litSame_eq h.1
    obtain ⟨rfl, h2⟩ := litsSame_eq h.2
    exact ⟨rfl, by intro x hx; rcases List.mem_cons.1 hx with rfl | hx; exact h1; exact h2 x hx⟩

def kindSame (d : TypeDesc) (k : TK) : Bool :=
  match d, k with
  | .bool, .bool => true
  | .int a, .int b => decide (a = b)
  | .slice e, .slc e' => Nat.beq e e'
  | .array n e, .arr n' e' => Nat.beq n n' && Nat.beq e e'
  | .struct fs, .st l => decide (fs.toList.map (fun f => (f.offset, f.type)) = l)
  | .pointer _, .other | .func _ _ _, .other | .map _ _, .other | .string, .other | .interface _, .other => true
  | _, _ => false

/-- What a row of the table says is so. -/
structure TyOk (P : Program) (t : Nat) (i : TI) : Prop where
  info : ∃ j z, P.info? t = some j ∧ j.size = i.size ∧ j.bytes = i.bytes ∧ j.zero = some z ∧ i.zero = z.cells.toList.map .lit ∧ (∀ v ∈ z.cells.toList, v.oneCell' = true) ∧ z.cells.size = i.size ∧
    (i.isAgg = true → ∃ cs, z = .agg cs) ∧ (i.isAgg = false → z.oneCell' = true)
  und : ∃ d, P.underlying t = some d ∧ kindSame d i.k = true
  ek : ∀ k, i.ek = some k → k.size = i.size ∧ i.bytes ≤ 1024
  eqf : i.eqf = true → ∀ (w : World) (xs ys : List CV) (vs us : Array Value) (b : Bool) (N : Names) (S : Nat → Prop), eqCells xs ys = some b → RepCL N S w xs vs.toList → RepCL N S w ys us.toList → likeZ i.zero xs = true →
    (Op.equal t (.agg vs) (.agg us)).run P w = .ok b w ∧ P.eqGuardType P.depth t = false

def tyCheck (P : Program) (p : Nat × TI) : Bool :=
  match P.info? p.1, P.underlying p.1 with
  | some j, some d =>
    Nat.beq j.size p.2.size && Nat.beq j.bytes p.2.bytes && kindSame d p.2.k && (p.2.ok && (match p.2.ek with | some k => Nat.beq k.size p.2.size && Nat.ble p.2.bytes 1024 | none => true)) &&
    (match j.zero with
     | some z => litsSame z.cells.toList p.2.zero && Nat.beq z.cells.size p.2.size && (match z with | .agg _ => p.2.isAgg | v => !p.2.isAgg && v.oneCell')
     | none => false)
  | _, _ => false

structure TyOk0 (P : Program) (t : Nat) (i : TI) : Prop where
  info : ∃ j z, P.info? t = some j ∧ j.size = i.size ∧ j.bytes = i.bytes ∧ j.zero = some z ∧ i.zero = z.cells.toList.map .lit ∧ (∀ v ∈ z.cells.toList, v.oneCell' = true) ∧ z.cells.size = i.size ∧
    (i.isAgg = true → ∃ cs, z = .agg cs) ∧ (i.isAgg = false → z.oneCell' = true)
  und : ∃ d, P.underlying t = some d ∧ kindSame d i.k = true
  ek : ∀ k, i.ek = some k → k.size = i.size ∧ i.bytes ≤ 1024

theorem tyCheck_ok {P : Program} {p : Nat × TI} (h : tyCheck P p = true) : TyOk0 P p.1 p.2 := by
  unfold tyCheck at h
  split at h
  · rename_i j d hj hd
    simp only [Bool.and_eq_true] at h
    obtain ⟨⟨⟨⟨h1, h2⟩, h3⟩, h4⟩, h5⟩ := h
    split at h5
    · rename_i z hz
      simp only [Bool.and_eq_true] at h5
      obtain ⟨⟨h6, h7⟩, h8⟩ := h5
      obtain ⟨e1, e2⟩ := litsSame_eq h6
      refine ⟨⟨j, z, hj, Nat.eq_of_beq_eq_true h1, Nat.eq_of_beq_eq_true h2, hz, e1, e2, Nat.eq_of_beq_eq_true h7, ?_, ?_⟩, ⟨d, hd, h3⟩, ?_⟩
      · intro ha
        split at h8
        · exact ⟨_, rfl⟩
        · simp [ha] at h8
      · intro ha
        split at h8
        · simp [ha] at h8
        · simp at h8; exact h8.2
      · intro k hk
        have := h4.2
        rw [hk] at this
        simp only [Bool.and_eq_true] at this
        exact ⟨Nat.eq_of_beq_eq_true this.1, Nat.le_of_ble_eq_true this.2⟩
    · cases h5
  · cases h

/-- The context fits the program. -/
structure XOk (X : Ctx) : Prop where
  ty : ∀ t, (X.ty t).ok = true → TyOk X.P t (X.ty t)
  mix : X.P.follows .mixedOrders = true
  kind : ∀ t, (X.ty t).ok = false → (X.ty t).k = .other ∧ (X.ty t).size = 0 ∧ (X.ty t).ek = none

theorem sizeOf_ok {X : Ctx} (hX : XOk X) {t : Nat} (h : (X.ty t).ok = true) (w : World) : (sizeOf t).run X.P w = .ok (X.ty t).size w := by
  obtain ⟨j, z, hj, hs, _⟩ := (hX.ty t h).info
  simp [sizeOf, typeInfo, hj, hs]

theorem und_ok {X : Ctx} (hX : XOk X) {t : Nat} (h : (X.ty t).ok = true) : ∃ d, X.P.underlying t = some d ∧ kindSame d (X.ty t).k = true := (hX.ty t h).und

theorem ok_of_kind {X : Ctx} (hX : XOk X) {t : Nat} (h : (X.ty t).k ≠ .other) : (X.ty t).ok = true := by
  cases hk : (X.ty t).ok with
  | true => rfl
  | false => exact absurd (hX.kind t hk).1 h

theorem und_slc {X : Ctx} (hX : XOk X) {t e : Nat} (h : (X.ty t).k = .slc e) : X.P.underlying t = some (.slice e) := by
  obtain ⟨d, hd, hk⟩ := und_ok hX (ok_of_kind hX (t := t) (by rw [h]; simp))
  rw [h] at hk
  cases d <;> simp [kindSame] at hk
  rw [hd, hk]

theorem und_arr {X : Ctx} (hX : XOk X) {t n e : Nat} (h : (X.ty t).k = .arr n e) : X.P.underlying t = some (.array n e) := by
  obtain ⟨d, hd, hk⟩ := und_ok hX (ok_of_kind hX (t := t) (by rw [h]; simp))
  rw [h] at hk
  cases d <;> simp [kindSame] at hk
  rw [hd, hk.1, hk.2]

theorem und_st {X : Ctx} (hX : XOk X) {t : Nat} {fs : List (Nat × Nat)} (h : (X.ty t).k = .st fs) : ∃ g : Array Field, X.P.underlying t = some (.struct g) ∧ g.toList.map (fun f => (f.offset, f.type)) = fs := by
  obtain ⟨d, hd, hk⟩ := und_ok hX (ok_of_kind hX (t := t) (by rw [h]; simp))
  rw [h] at hk
  cases d <;> simp [kindSame] at hk
  exact ⟨_, hd, hk⟩

theorem und_bool {X : Ctx} (hX : XOk X) {t : Nat} (h : (X.ty t).k = .bool) : X.P.underlying t = some .bool := by
  obtain ⟨d, hd, hk⟩ := und_ok hX (ok_of_kind hX (t := t) (by rw [h]; simp))
  rw [h] at hk
  cases d <;> simp [kindSame] at hk
  rw [hd]

theorem und_int {X : Ctx} (hX : XOk X) {t : Nat} {k : IntKind} (h : (X.ty t).k = .int k) : X.P.underlying t = some (.int k) := by
  obtain ⟨d, hd, hk⟩ := und_ok hX (ok_of_kind hX (t := t) (by rw [h]; simp))
  rw [h] at hk
  cases d <;> simp [kindSame] at hk
  rw [hd, hk]

theorem isAgg_run {X : Ctx} (hX : XOk X) {t : Nat} (h : (X.ty t).ok = true) (w : World) : (isAgg t).run X.P w = .ok (X.ty t).isAgg w := by
  obtain ⟨d, hd, hk⟩ := und_ok hX h
  simp only [isAgg, Sem.run_bind, run_underlying hd, Result.andThen_ok]
  cases d <;> cases hkk : (X.ty t).k <;> simp_all [kindSame, TI.isAgg]

end Go.Abs
