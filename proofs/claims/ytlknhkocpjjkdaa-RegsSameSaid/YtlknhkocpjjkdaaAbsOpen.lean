/- From the form's reading of an argument to the abstract data. -/
import Derived.Test.YtlknhkocpjjkdaaAbsData
import Derived.SizedLaws
import Derived.OpenShut
import Derived.Below
set_option linter.all false
set_option linter.unusedVariables false
set_option linter.unusedSimpArgs false
namespace Go.Abs
open Go.ChangeShapes Go.WideShapes Go.RowKit

section
variable {P : Program} {w : World}

/-- No block is anybody's to write to. -/
abbrev no : Nat → Prop := fun _ => False

/-- What is read at a type is such. -/
structure Rd (P : Program) (w : World) (t : Nat) (Φ : List Value → Prop) : Prop where
  go : ∀ {H : Type} (enc : TypeId × Value → H) (base : Nat) (spare : Nat → Bool) (held : Bool) (fuel : Nat) (cs : List Value) (x : DataW H × List MemPlace), DataW.trod enc P w base spare held fuel t cs = some x →
    (∀ n ∈ x.1.weights P t, n ≤ reachBytes) → Φ cs

theorem Rd.mono {t : Nat} {Φ Ψ : List Value → Prop} (h : Rd P w t Φ) (hi : ∀ cs, Φ cs → Ψ cs) : Rd P w t Ψ :=
  ⟨fun enc base spare held fuel cs x hx hw => hi cs (h.go enc base spare held fuel cs x hx hw)⟩

theorem Rd.and {t : Nat} {Φ Ψ : List Value → Prop} (h : Rd P w t Φ) (h' : Rd P w t Ψ) : Rd P w t (fun cs => Φ cs ∧ Ψ cs) :=
  ⟨fun enc base spare held fuel cs x hx hw => ⟨h.go enc base spare held fuel cs x hx hw, h'.go enc base spare held fuel cs x hx hw⟩⟩

theorem Rd.int {t : Nat} (ht : P.underlying t = some (.int .i64)) : Rd P w t (fun cs => ∃ n, cs = [.int .i64 n] ∧ (Lit.int .i64 n).wf = true) :=
  ⟨fun _ _ _ _ _ _ _ hx _ => let ⟨n, h1, _, h3⟩ := DataW.trod_int ht hx; ⟨n, h1, h3⟩⟩

theorem Rd.bool {t : Nat} (ht : P.underlying t = some .bool) : Rd P w t (fun cs => ∃ b, cs = [.bool b]) :=
  ⟨fun _ _ _ _ _ _ _ hx _ => let ⟨b, h1, _⟩ := DataW.trod_bool ht hx; ⟨b, h1⟩⟩

theorem Rd.len {t : Nat} {fs : Array Field} (ht : P.underlying t = some (.struct fs)) : Rd P w t (fun cs => cs.length = P.cellsOf t) :=
  ⟨fun _ _ _ _ _ _ _ hx _ => let ⟨_, _, _, _, h, _⟩ := DataW.trod_struct ht hx; h⟩

theorem Rd.lenA {t n e : Nat} (ht : P.underlying t = some (.array n e)) : Rd P w t (fun cs => cs.length = P.cellsOf t) :=
  ⟨fun _ _ _ _ _ _ _ hx _ => let ⟨_, _, _, _, h, _⟩ := DataW.trod_array ht hx; h⟩

theorem weights_all {H : Type} {e : Nat} {ds : List (DataW H)} {i : Nat} {d : DataW H} (hd : ds[i]? = some d) : ∀ n ∈ d.weights P e, n ∈ DataW.weightsAll P e ds := by
  induction ds generalizing i with
  | nil => simp at hd
  | cons x r ih =>
    intro n hn
    simp only [DataW.weightsAll, List.mem_append]
    cases i with
    | zero => simp at hd; subst hd; exact .inl hn
    | succ i => exact .inr (ih (by simpa using hd) n hn)

theorem Rd.field {t : Nat} {fs : Array Field} (ht : P.underlying t = some (.struct fs)) {i : Nat} {f : Field} (hf : fs[i]? = some f) {Φ : List Value → Prop} (h : Rd P w f.type Φ) : Rd P w t (fun cs => Φ ((cs.drop f.offset).take (P.cellsOf f.type))) := by
  constructor
  intro H enc base spare held fuel cs x hx hw
  obtain ⟨xs, n, _, rfl, _, hlen, hfs⟩ := DataW.trod_struct ht hx
  have h1 := hfs i f hf
  have hi : i < fs.size := (Array.getElem?_eq_some_iff.1 hf).1
  have h2 : xs[i]? = some xs[i] := List.getElem?_eq_getElem (by omega)
  rw [h2] at h1
  refine h.go enc base spare held n _ _ h1 fun m hm => hw m ?_
  simp only [DataW.weights, ht]
  refine DataW.weights_mem_each (j := i) (t := f.type) (d := xs[i].1) ?_ ?_ m hm
  · rw [List.getElem?_map, Array.getElem?_toList, hf]; rfl
  · rw [List.getElem?_map, h2]; rfl

theorem Rd.elem {t n e : Nat} (ht : P.underlying t = some (.array n e)) {i : Nat} (hi : i < n) {Φ : List Value → Prop} (h : Rd P w e Φ) : Rd P w t (fun cs => Φ ((cs.drop (i * P.cellsOf e)).take (P.cellsOf e))) := by
  constructor
  intro H enc base spare held fuel cs x hx hw
  obtain ⟨xs, m, _, rfl, _, hlen, hfs⟩ := DataW.trod_array ht hx
  have h1 := hfs i hi
  have h2 : xs[i]? = some xs[i] := List.getElem?_eq_getElem (by omega)
  rw [h2] at h1
  refine h.go enc base spare held m _ _ h1 fun k hk => hw k ?_
  simp only [DataW.weights, ht]
  exact weights_all (i := i) (d := xs[i].1) (by rw [List.getElem?_map, h2]; rfl) k hk

theorem cells?_get {base n : Nat} {a : Addr} {cs : List Value} (h : w.cells? base a n = some cs) : cs.length = n ∧ ∀ i, i < n → w.cell? (a.add i) = cs[i]? := by
  unfold World.cells? at h
  split at h
  · exact ⟨by simpa using mapM_some_length h, fun i hi => mapM_some_get h i i (by simp [hi])⟩
  · cases h

theorem Rd.slice {t e : Nat} (k : EK) (ht : P.underlying t = some (.slice e)) (hc : P.cellsOf e = k.size) (hb : 1 ≤ P.bytesOf e) (he : Rd P w e (fun cs => ∃ y : k.T, RepL no w (k.enc y) cs)) : Rd P w t (fun cs => ∃ l v, cs = [v] ∧ Rep no w (.sl k l) v) := by
  constructor
  intro H enc base spare held fuel cs x hx hw
  rcases DataW.trod_slice ht hx with ⟨rfl, _⟩ | ⟨a, len, cap, elems, rest, n, _, rfl, rfl, _, hl, _, hlen, hel, _, _⟩
  · exact ⟨[], _, rfl, .slnil k none 0⟩
  have hwt : (elems.length + rest.length) * P.bytesOf e ≤ reachBytes := by
    refine hw _ ?_
    simp only [DataW.weights, ht, List.length_map]
    exact List.mem_cons_self
  have hcap : elems.length ≤ reachBytes := by
    refine Nat.le_trans ?_ hwt
    refine Nat.le_trans (Nat.le_add_right _ rest.length) ?_
    exact Nat.le_mul_of_pos_right _ hb
  have each : ∀ i, i < len → ∃ (y : k.T) (ecs : List Value), RepL no w (k.enc y) ecs ∧ ecs.length = k.size ∧ ∀ j, j < k.size → w.cell? ((a.add (i * k.size)).add j) = ecs[j]? := by
    intro i hi
    have h1 := hel i hi
    have h2 : elems[i]? = some elems[i] := List.getElem?_eq_getElem (by omega)
    rw [h2, Option.bind_eq_some_iff] at h1
    obtain ⟨ecs, h3, h4⟩ := h1
    obtain ⟨y, hy⟩ := he.go enc base spare held n ecs _ h4 fun m hm => hw m (by
      simp only [DataW.weights, ht]
      exact List.mem_cons_of_mem _ (List.mem_append_left _ (weights_all (i := i) (d := elems[i].1) (by rw [List.getElem?_map, h2]; rfl) m hm)))
    obtain ⟨h5, h6⟩ := cells?_get h3
    rw [hc] at h5 h6
    exact ⟨y, ecs, hy, h5, h6⟩
  -- all of them
  have all : ∀ m, m ≤ len → ∃ (l : List k.T) (vs : List Value), l.length = m ∧ RepL no w (l.flatMap k.enc) vs ∧ vs.length = m * k.size ∧ ∀ j, j < m * k.size → w.cell? (a.add j) = vs[j]? := by
    intro m
    induction m with
    | zero => intro _; exact ⟨[], [], rfl, repL_nil, by simp, fun j hj => by omega⟩
    | succ m ih =>
      intro hm
      obtain ⟨l, vs, h1, h2, h3, h4⟩ := ih (by omega)
      obtain ⟨y, ecs, h5, h6, h7⟩ := each m (by omega)
      refine ⟨l ++ [y], vs ++ ecs, by simp [h1], by rw [List.flatMap_append]; simpa using repL_append h2 h5, by rw [List.length_append, h3, h6, Nat.succ_mul], fun j hj => ?_⟩
      by_cases hjm : j < m * k.size
      · rw [h4 j hjm, List.getElem?_append_left (by omega)]
      · rw [List.getElem?_append_right (by omega), h3, ← h7 (j - m * k.size) (by rw [Nat.succ_mul] at hj; omega), Addr.add_add]
        congr 2
        omega
  obtain ⟨l, vs, h1, h2, h3, h4⟩ := all len (Nat.le_refl _)
  cases len with
  | zero =>
    have : l = [] := List.eq_nil_of_length_eq_zero h1
    subst this
    exact ⟨[], _, rfl, .slnil k (some a) cap⟩
  | succ len =>
    have hpos := k.pos
    have hn : 0 < (len + 1) * k.size := Nat.mul_pos (Nat.succ_pos _) hpos
    have hspot : a.spot = none := by
      have h5 := h4 0 hn
      rw [List.getElem?_eq_getElem (by omega)] at h5
      have := World.cell?_spot h5
      cases a with | mk b o s => cases s with
        | none => rfl
        | some s => simp [Addr.add] at this
    refine ⟨l, _, rfl, ?_⟩
    have key := Rep.sl (O := no) (w := w) k l a cap vs (fun _ h => h) hspot (by omega) (by unfold maxN; unfold reachBytes at hcap; omega) h2.1 h2.2 (fun j v hv => ?_)
    · rw [h1] at key
      exact key
    · have hj : j < (len + 1) * k.size := by rw [← h3]; exact (List.getElem?_eq_some_iff.1 hv).1
      rw [← hv, ← h4 j hj, add_spot hspot]

end
end Go.Abs
