/- What a law's contract comes to; its frame. -/
import Derived.Test.YtlknhkocpjjkdaaAbsOpen
import Derived.Test.YtlknhkocpjjkdaaAbsBase
import Derived.Carry
import Derived.WalkKit
import Derived.ProofKit
import Derived.ChangeOld
set_option linter.all false
set_option linter.unusedVariables false
set_option linter.unusedSimpArgs false
namespace Go.Abs
open Go.RowKit

theorem law_calls {X : Ctx} (hgl : X.gl = []) {f : Nat} {args : List TV} {vs : List Value} {w : World} (h : Spec X f [] args (Ret [] (.bo true))) (ha : RepTL (fun _ => .unused) no w args vs) :
    Calls X.P f vs.toArray w fun e w' => e = .returned (.bool true) ∧ Below w.heap.size w w' := by
  refine (h.2 (fun _ => .unused) no w vs ⟨fun b b' r r' hb => (by cases hb), fun b r hb => (by cases hb), fun k hk => hk.elim⟩ (fun b x hx => by cases hx) (fun b hb => absurd rfl hb) (fun g xs hx => ?_) ha).mono ?_
  · rw [hgl] at hx
    cases hx
  · rintro e w' ⟨v, N', H', r, rfl, ⟨_, rfl⟩, _, _, _, hr, hw, _⟩
    refine ⟨by rw [rep_lit hr], hw.os, hw.tape, hw.output, hw.size, fun k hk => hw.block k hk ?_⟩
    rintro ⟨b, r, hb, _⟩
    cases hb

/-- An argument of several cells. -/
theorem arg_agg {w : World} {xs : List DV} {cs : Array Value} (h : RepL no w xs cs.toList) : RepT (fun _ => .unused) no w (.agg (xs.map .d)) (.agg cs) := by
  refine .agg _ _ (repCL_d (h.sub fun k _ ho => ?_))
  rcases ho with ⟨b, r, hb, _⟩ | ho
  · cases hb
  · exact ho

theorem arg_one {w : World} {x : DV} {v : Value} (h : Rep no w x v) : RepT (fun _ => .unused) no w (.c (.d x)) v := by
  refine .c _ _ (.d _ _ (h.sub fun k _ ho => ?_))
  rcases ho with ⟨b, r, hb, _⟩ | ho
  · cases hb
  · exact ho

theorem args_nil {N : Names} {S : Nat → Prop} {w : World} : RepTL N S w [] [] := ⟨rfl, fun i x v hx => by simp at hx⟩
theorem args_cons {N : Names} {S : Nat → Prop} {w : World} {x : TV} {v : Value} {xs : List TV} {vs : List Value} (h : RepT N S w x v) (hs : RepTL N S w xs vs) : RepTL N S w (x :: xs) (v :: vs) := by
  refine ⟨by simp [hs.1], fun i a b ha hb => ?_⟩
  cases i with
  | zero => simp at ha hb; subst ha hb; exact h
  | succ i => exact hs.2 i a b (by simpa using ha) (by simpa using hb)

end Go.Abs

namespace Go.Abs
open Go.ChangeShapes Go.WideShapes Go.RowKit

/-- Nobody's names. -/
abbrev nn : Names := fun _ => .unused

/-- What is handed in at this type is such. -/
def Opn (P : Program) (t : TypeId) (Ψ : TV → Prop) : Prop :=
  ∀ (H : Type) (enc : TypeId × Value → H) (W : World) (base : Nat) (v : Value) (d : DataW H) (ps : List MemPlace), Value.okWide P W .any base t v → DataW.Trod enc P W 0 (fun _ => true) true t v d ps → (∀ n ∈ d.weights P t, n ≤ reachBytes) → ∃ y, Ψ y ∧ RepT nn no W y v

def Fits : List (TV → Prop) → List TV → Prop
  | [], [] => True
  | p :: ps, y :: ys => p y ∧ Fits ps ys
  | _, _ => False

theorem Fits.cons {p : TV → Prop} {ps : List (TV → Prop)} {ys : List TV} (h : Fits (p :: ps) ys) : ∃ y r, ys = y :: r ∧ p y ∧ Fits ps r := by
  cases ys with
  | nil => exact h.elim
  | cons y r => exact ⟨y, r, rfl, h.1, h.2⟩
theorem Fits.nil {ys : List TV} (h : Fits [] ys) : ys = [] := by
  cases ys with
  | nil => rfl
  | cons y r => exact h.elim

theorem Opn.int {P : Program} {t : Nat} (ht : P.underlying t = some (.int .i64)) : Opn P t (fun y => ∃ n : Int, y = .c (.d (.int n)) ∧ (Lit.int .i64 n).wf = true) := by
  intro H enc W base v d ps hv hd _
  obtain ⟨n, rfl, _, _, hw⟩ := open_int ht hv hd
  exact ⟨_, ⟨n, rfl, hw⟩, arg_one (rep_i _)⟩

theorem Opn.bool {P : Program} {t : Nat} (ht : P.underlying t = some .bool) : Opn P t (fun y => ∃ b : Bool, y = .c (.d (.bo b))) := by
  intro H enc W base v d ps hv hd _
  obtain ⟨b, rfl, _, _⟩ := open_bool ht hv hd
  exact ⟨_, ⟨b, rfl⟩, arg_one (rep_b _)⟩

theorem Opn.agg {P : Program} {t : Nat} {τ : Type} {enc : τ → List DV} {fs : Array Field} (ht : P.underlying t = some (.struct fs)) (h : ∀ w, Rd P w t (fun cs => ∃ y : τ, RepL no w (enc y) cs)) : Opn P t (fun y => ∃ z : τ, y = .dagg (enc z)) := by
  intro H e W base v d ps hv hd hw
  obtain ⟨cs, rfl, _⟩ := okWide_struct ht hv
  obtain ⟨fuel, hf⟩ := hd
  obtain ⟨z, hz⟩ := (h W).go e 0 _ _ fuel _ _ hf hw
  exact ⟨_, ⟨z, rfl⟩, arg_agg hz⟩

theorem Opn.arr {P : Program} {t n u : Nat} {τ : Type} {enc : τ → List DV} (ht : P.underlying t = some (.array n u)) (hag : ∀ W base v, Value.okWide P W .any base t v → ∃ cs, v = .agg cs) (h : ∀ w, Rd P w t (fun cs => ∃ y : τ, RepL no w (enc y) cs)) : Opn P t (fun y => ∃ z : τ, y = .dagg (enc z)) := by
  intro H e W base v d ps hv hd hw
  obtain ⟨cs, rfl⟩ := hag _ _ _ hv
  obtain ⟨fuel, hf⟩ := hd
  obtain ⟨z, hz⟩ := (h W).go e 0 _ _ fuel _ _ hf hw
  exact ⟨_, ⟨z, rfl⟩, arg_agg hz⟩

theorem Opn.slice {P : Program} {t e : Nat} (k : EK) (ht : P.underlying t = some (.slice e)) (h : ∀ w, Rd P w t (fun cs => ∃ l v, cs = [v] ∧ Rep no w (.sl k l) v)) : Opn P t (fun y => ∃ l, y = .c (.d (.sl k l))) := by
  intro H e W base v d ps hv hd hw
  obtain ⟨a, len, cap, rfl⟩ := okWide_slice ht hv
  obtain ⟨fuel, hf⟩ := hd
  obtain ⟨l, v, hc, hr⟩ := (h W).go e 0 _ _ fuel _ _ hf hw
  simp [Value.cells] at hc
  subst hc
  exact ⟨_, ⟨l, rfl⟩, arg_one hr⟩

theorem open_all {P : Program} {H : Type} {enc : TypeId × Value → H} {W : World} {base : Nat} : ∀ (L : List (TypeId × (TV → Prop))) (hL : ∀ x ∈ L, Opn P x.1 x.2) (args : List Value) (ds : List (DataW H)) (p : List MemPlace),
    (∀ (j : Nat) t v, (L.map (·.1))[j]? = some t → args[j]? = some v → Value.okWide P W .any base t v) → DataW.TrodAll enc P W 0 (fun _ => true) true (L.map (·.1)) args ds p → (∀ n ∈ DataW.weightsEach P (L.map (·.1)) ds, n ≤ reachBytes) →
    ∃ ys, Fits (L.map (·.2)) ys ∧ RepTL nn no W ys args := by
  intro L
  induction L with
  | nil =>
    intro _ args ds p _ hA _
    obtain ⟨rfl, rfl, rfl⟩ := trodAll_nil hA
    exact ⟨[], trivial, args_nil⟩
  | cons x L ih =>
    intro hL args ds p hv hA hw
    obtain ⟨v0, vs0, d0, ds0, p0, q0, rfl, rfl, rfl, h0, r0⟩ := trodAll_cons hA
    obtain ⟨y, h1, h2⟩ := hL x List.mem_cons_self H enc W base v0 d0 p0 (hv 0 _ _ rfl rfl) h0 fun n hn => hw n (by
      simp only [List.map_cons, DataW.weightsEach]
      exact List.mem_append_left _ hn)
    obtain ⟨ys, h3, h4⟩ := ih (fun x hx => hL x (List.mem_cons_of_mem _ hx)) vs0 ds0 q0 (fun j t v ht hv' => hv (j + 1) t v (by simpa using ht) (by simpa using hv')) r0 fun n hn => hw n (by
      simp only [List.map_cons, DataW.weightsEach]
      exact List.mem_append_right _ hn)
    exact ⟨y :: ys, ⟨h1, h3⟩, args_cons h2 h4⟩

theorem carry_all {P : Program} {H : Type} {enc : TypeId × Value → H} {W W' : World} (hl : laidOutB P = true) (hb : Below W.heap.size W W') : ∀ (ts : List TypeId) (hr : ∀ t ∈ ts, P.readableRec t = true ∧ t < P.types.size) (args : List Value) (ds : List (DataW H)) (p : List MemPlace),
    DataW.TrodAll enc P W 0 (fun _ => true) true ts args ds p → (∀ x ∈ p, x.block < W.heap.size) → DataW.TrodAll enc P W' 0 (fun b => decide (b < W.heap.size)) true ts args ds p := by
  intro ts
  induction ts with
  | nil =>
    intro _ args ds p hA _
    obtain ⟨rfl, rfl, rfl⟩ := trodAll_nil hA
    exact rfl
  | cons t ts ih =>
    intro hr args ds p hA hp
    obtain ⟨v0, vs0, d0, ds0, p0, q0, rfl, rfl, rfl, h0, r0⟩ := trodAll_cons hA
    refine trodAll_cons_mk (Below.trod hl (hr t List.mem_cons_self).1 (hr t List.mem_cons_self).2 h0 hb fun x hx => hp x (List.mem_append_left _ hx)) (ih (fun t ht => hr t (List.mem_cons_of_mem _ ht)) _ _ _ r0 fun x hx => hp x (List.mem_append_right _ hx))

/-- The law's call, at what was handed in. -/
theorem law_goes {X : Ctx} (hgl : X.gl = []) {f : Nat} (L : List (TypeId × (TV → Prop))) (hL : ∀ x ∈ L, Opn X.P x.1 x.2) (spec : ∀ ys, Fits (L.map (·.2)) ys → Spec X f [] ys (Ret [] (.bo true)))
    (hl : laidOutB X.P = true) (hr : ∀ t ∈ L.map (·.1), X.P.readableRec t = true ∧ t < X.P.types.size) {H : Type} {enc : TypeId × Value → H} {W : World} {base : Nat} {args : Array Value} {ds : List (DataW H)} {p : List MemPlace} {vt : List TypeId} {gs : List (DataW H)}
    (hgs : gs = []) (hvt : vt = []) (hv : ∀ (j : Nat) t v, (L.map (·.1))[j]? = some t → args[j]? = some v → Value.okWide X.P W .any base t v) (hA : DataW.TrodAll enc X.P W 0 (fun _ => true) true (L.map (·.1)) args.toList ds p)
    (hw : (DataW.weightsEach X.P (L.map (·.1) ++ vt) (ds ++ gs)).all (· ≤ reachBytes) = true) (hp : ∀ x ∈ p, x.block < W.heap.size) :
    Calls X.P f args W fun e W' => e = .returned (.bool true) ∧ Below W.heap.size W W' ∧ DataW.TrodAll enc X.P W' 0 (fun b => decide (b < W.heap.size)) true (L.map (·.1)) args.toList ds p := by
  subst hgs hvt
  simp only [List.append_nil] at hw
  obtain ⟨ys, h1, h2⟩ := open_all L hL args.toList ds p (fun j t v h h' => hv j t v h (by simpa using h')) hA fun n hn => by simpa using List.all_eq_true.1 hw n hn
  have h := law_calls hgl (spec ys h1) h2
  exact h.mono fun e w' ⟨he, hb⟩ => ⟨he, hb, carry_all hl hb _ hr _ _ _ hA hp⟩

end Go.Abs
