/- What is read off arguments that are not too large. -/
import Derived.Test.YtkalcaokmadpjaaDoorLBase
set_option linter.all false
set_option linter.unusedVariables false
namespace Go.Proofs.YtkalcaokmadpjaaDoor
open Go.ChangeShapes Go.WideShapes Go.ChangeAt Go.RowKit

def OpnU (P : Program) (t : TypeId) (Ψ : Abs.TV → Prop) : Prop :=
  ∀ (H : Type) (enc : TypeId × Value → H) (W : World) (base : Nat) (v : Value) (d : DataW H) (ps : List MemPlace), Value.okWide P W .any base t v → DataW.Trod enc P W 0 (fun _ => true) true t v d ps → (∀ n ∈ d.weights P t, n ≤ reachBytes) → Rows.uptoBulk d ≤ 1048576 → ∃ y, Ψ y ∧ Abs.RepT Abs.nn Abs.no W y v

theorem OpnU.of {P : Program} {t : TypeId} {Ψ : Abs.TV → Prop} (h : Abs.Opn P t Ψ) : OpnU P t Ψ := fun H enc W base v d ps h1 h2 h3 _ => h H enc W base v d ps h1 h2 h3

theorem bulk_one {H : Type} (d : DataW H) : 1 ≤ Rows.uptoBulk d := by
  cases d with
  | lit l => cases l <;> simp [Rows.uptoBulk]
  | nil => simp [Rows.uptoBulk]
  | ptr d => simp [Rows.uptoBulk]
  | slice elems spare => simp [Rows.uptoBulk]
  | agg parts => simp [Rows.uptoBulk]
  | iface t d => simp [Rows.uptoBulk]
  | map entries => simp [Rows.uptoBulk]
  | held h => simp [Rows.uptoBulk]

theorem bulk_len {H : Type} (l : List (DataW H)) : l.length ≤ Rows.uptoBulkAll l := by
  induction l with
  | nil => simp [Rows.uptoBulkAll]
  | cons x r ih => have := bulk_one x; simp only [Rows.uptoBulkAll, List.length_cons]; omega

theorem bulk_part {H : Type} {d : DataW H} {l : List (DataW H)} (h : d ∈ l) : Rows.uptoBulk d ≤ Rows.uptoBulkAll l := by
  induction l with
  | nil => cases h
  | cons x r ih =>
    simp only [Rows.uptoBulkAll]
    cases List.mem_cons.1 h with
    | inl e => subst e; omega
    | inr e => have := ih e; omega

theorem slice_short {P : Program} {t e : TypeId} {H : Type} {enc : TypeId × Value → H} {W : World} {fuel : Nat} {v : Value} {x : DataW H × List MemPlace} (ht : P.underlying t = some (.slice e)) (hx : DataW.trod enc P W 0 (fun _ => true) true fuel t [v] = some x) (hb : Rows.uptoBulk x.1 ≤ 1048576)
    {k : Abs.EK} {l : List k.T} (hr : Abs.Rep Abs.no W (.sl k l) v) : l.length ≤ 1048576 := by
  rcases DataW.trod_slice ht hx with ⟨h1, _⟩ | ⟨a, len, cap, elems, rest, n, _, h1, rfl, _, _, _, h2, _⟩
  · cases h1
    cases hr
    exact Nat.zero_le _
  · cases h1
    have h3 := bulk_len (elems.map (·.1))
    simp only [List.length_map] at h3
    simp only [Rows.uptoBulk] at hb
    cases hr with
    | slnil => exact Nat.zero_le _
    | sl => omega

abbrev isListsB (y : Abs.TV) : Prop := ∃ z : Abs.Lists, y = .dagg (Abs.EK.lists.enc z) ∧ z.l0.length ≤ 1048576 ∧ z.l1.length ≤ 1048576 ∧ z.l2.length ≤ 1048576
abbrev isIntsB (y : Abs.TV) : Prop := ∃ z : List Int, y = .c (.d (.sl .int z)) ∧ z.length ≤ 1048576

set_option maxRecDepth 100000 in
theorem opnIntsB : OpnU Tryd.prog 22 isIntsB := by
  intro H enc W base v d ps hv hd hw hb
  obtain ⟨y, ⟨z, rfl⟩, hr⟩ := opnInts H enc W base v d ps hv hd hw
  obtain ⟨a, len, cap, rfl⟩ := okWide_slice Tryd.underlying22 hv
  obtain ⟨fuel, hf⟩ := hd
  refine ⟨_, ⟨z, rfl, ?_⟩, hr⟩
  cases hr with | c _ _ hr =>
  cases hr with | d _ _ hr =>
  have hr' := hr.keep (.refl _ _) (O' := Abs.no) fun k _ h => h.elim
  exact slice_short Tryd.underlying22 (x := (d, ps)) hf hb hr'

set_option maxRecDepth 100000 in
theorem opnListsB : OpnU Tryd.prog 25 isListsB := by
  intro H enc W base v d ps hv hd hw hb
  obtain ⟨cs, rfl⟩ := okWideArr Tryd.underlying25 hv
  obtain ⟨fuel, hf⟩ := hd
  obtain ⟨z, hz⟩ := (rdLists W).go enc 0 _ _ fuel _ _ hf hw
  have hf' : DataW.trod enc Tryd.prog W 0 (fun _ => true) true fuel 25 cs.toList = some (d, ps) := hf
  have hz' : Abs.RepL Abs.no W (Abs.EK.lists.enc z) cs.toList := hz
  refine ⟨_, ⟨z, rfl, ?_⟩, Abs.arg_agg hz'⟩
  obtain ⟨xs, m, _, hxd, hcl, hlen, hel⟩ := DataW.trod_array Tryd.underlying25 hf'
  have c1 : Tryd.prog.cellsOf 22 = 1 := by kernel_rfl
  cases hxd
  generalize cs.toList = vs at hz' hel
  match vs, hz' with
  | [v0, v1, v2], hz' =>
    have key : ∀ j w, j < 3 → [v0, v1, v2][j]? = some w → ∃ x, DataW.trod enc Tryd.prog W 0 (fun _ => true) true m 22 [w] = some x ∧ Rows.uptoBulk x.1 ≤ 1048576 := by
      intro j w hj hw
      have h1 := hel j (by omega)
      have h2 : xs[j]? = some xs[j] := List.getElem?_eq_getElem (by omega)
      rw [h2, c1, Nat.mul_one] at h1
      have h3 : ([v0, v1, v2].drop j).take 1 = [w] := by
        match j, hj, hw with
        | 0, _, hw => cases hw; rfl
        | 1, _, hw => cases hw; rfl
        | 2, _, hw => cases hw; rfl
      rw [h3] at h1
      refine ⟨_, h1, ?_⟩
      have h4 : Rows.uptoBulk xs[j].1 ≤ Rows.uptoBulkAll (xs.map (·.1)) := bulk_part (List.mem_map.2 ⟨_, List.getElem_mem _, rfl⟩)
      simp only [Rows.uptoBulk] at hb
      omega
    obtain ⟨x0, g0, b0⟩ := key 0 v0 (by decide) rfl
    obtain ⟨x1, g1, b1⟩ := key 1 v1 (by decide) rfl
    obtain ⟨x2, g2, b2⟩ := key 2 v2 (by decide) rfl
    exact ⟨slice_short Tryd.underlying22 g0 b0 (hz'.2 0 _ v0 rfl rfl), slice_short Tryd.underlying22 g1 b1 (hz'.2 1 _ v1 rfl rfl), slice_short Tryd.underlying22 g2 b2 (hz'.2 2 _ v2 rfl rfl)⟩

theorem open_allU {P : Program} {H : Type} {enc : TypeId × Value → H} {W : World} {base : Nat} : ∀ (L : List (TypeId × (Abs.TV → Prop))) (hL : ∀ x ∈ L, OpnU P x.1 x.2) (args : List Value) (ds : List (DataW H)) (p : List MemPlace),
    (∀ (j : Nat) t v, (L.map (·.1))[j]? = some t → args[j]? = some v → Value.okWide P W .any base t v) → DataW.TrodAll enc P W 0 (fun _ => true) true (L.map (·.1)) args ds p → (∀ n ∈ DataW.weightsEach P (L.map (·.1)) ds, n ≤ reachBytes) → Rows.uptoBulkAll ds ≤ 1048576 →
    ∃ ys, Abs.Fits (L.map (·.2)) ys ∧ Abs.RepTL Abs.nn Abs.no W ys args := by
  intro L
  induction L with
  | nil =>
    intro _ args ds p _ hA _ _
    obtain ⟨rfl, rfl, rfl⟩ := trodAll_nil hA
    exact ⟨[], trivial, Abs.args_nil⟩
  | cons x L ih =>
    intro hL args ds p hv hA hw hb
    obtain ⟨v0, vs0, d0, ds0, p0, q0, rfl, rfl, rfl, h0, r0⟩ := trodAll_cons hA
    simp only [Rows.uptoBulkAll] at hb
    obtain ⟨y, h1, h2⟩ := hL x List.mem_cons_self H enc W base v0 d0 p0 (hv 0 _ _ rfl rfl) h0 (fun n hn => hw n (by
      simp only [List.map_cons, DataW.weightsEach]
      exact List.mem_append_left _ hn)) (by omega)
    obtain ⟨ys, h3, h4⟩ := ih (fun x hx => hL x (List.mem_cons_of_mem _ hx)) vs0 ds0 q0 (fun j t v ht hv' => hv (j + 1) t v (by simpa using ht) (by simpa using hv')) r0 (fun n hn => hw n (by
      simp only [List.map_cons, DataW.weightsEach]
      exact List.mem_append_right _ hn)) (by omega)
    exact ⟨y :: ys, ⟨h1, h3⟩, Abs.args_cons h2 h4⟩

/-- The law's call, at what was handed in. -/
theorem law_goesU {X : Abs.Ctx} (hgl : X.gl = []) {f : Nat} (L : List (TypeId × (Abs.TV → Prop))) (hL : ∀ x ∈ L, OpnU X.P x.1 x.2) (spec : ∀ ys, Abs.Fits (L.map (·.2)) ys → Abs.Spec X f [] ys (Abs.Ret [] (.bo true)))
    (hl : laidOutB X.P = true) (hr : ∀ t ∈ L.map (·.1), X.P.readableRec t = true ∧ t < X.P.types.size) {H : Type} {enc : TypeId × Value → H} {W : World} {base : Nat} {args : Array Value} {ds : List (DataW H)} {p : List MemPlace} {vt : List TypeId} {gs : List (DataW H)}
    (hgs : gs = []) (hvt : vt = []) (hv : ∀ (j : Nat) t v, (L.map (·.1))[j]? = some t → args[j]? = some v → Value.okWide X.P W .any base t v) (hA : DataW.TrodAll enc X.P W 0 (fun _ => true) true (L.map (·.1)) args.toList ds p)
    (hw : (DataW.weightsEach X.P (L.map (·.1) ++ vt) (ds ++ gs)).all (· ≤ reachBytes) = true) (hk : Rows.uptoSmall H (ds ++ gs) = true) (hp : ∀ x ∈ p, x.block < W.heap.size) :
    Calls X.P f args W fun e W' => e = .returned (.bool true) ∧ Below W.heap.size W W' ∧ DataW.TrodAll enc X.P W' 0 (fun b => decide (b < W.heap.size)) true (L.map (·.1)) args.toList ds p := by
  subst hgs hvt
  simp only [List.append_nil] at hw hk
  obtain ⟨ys, h1, h2⟩ := open_allU L hL args.toList ds p (fun j t v h h' => hv j t v h (by simpa using h')) hA (fun n hn => by simpa using List.all_eq_true.1 hw n hn) (of_decide_eq_true hk)
  have h := Abs.law_calls hgl (spec ys h1) h2
  exact h.mono fun e w' ⟨he, hb⟩ => ⟨he, hb, Abs.carry_all hl hb _ hr _ _ _ hA hp⟩

end Go.Proofs.YtkalcaokmadpjaaDoor
