/- The same, by the table of types; the program's data, read. -/
import Derived.Test.YtlknhkocpjjkdaaAbsOpen
set_option linter.all false
set_option linter.unusedVariables false
set_option linter.unusedSimpArgs false
namespace Go.Abs
open Go.ChangeShapes Go.WideShapes Go.RowKit

section
variable {X : Ctx} {w : World}

theorem cellsOf_ok (hX : XOk X) {t : Nat} (h : (X.ty t).ok = true) : X.P.cellsOf t = (X.ty t).size := by
  obtain ⟨j, z, hj, hs, _⟩ := (hX.ty t h).info
  simp [Program.cellsOf, hj, hs]

theorem bytesOf_ok (hX : XOk X) {t : Nat} (h : (X.ty t).ok = true) : X.P.bytesOf t = (X.ty t).bytes := by
  obtain ⟨j, z, hj, _, hb, _⟩ := (hX.ty t h).info
  simp [Program.bytesOf, hj, hb]

theorem Rd.intX (hX : XOk X) {t : Nat} (hk : (X.ty t).k = .int .i64) : Rd X.P w t (fun cs => ∃ n, cs = [.int .i64 n] ∧ (Lit.int .i64 n).wf = true) := Rd.int (und_int hX hk)
theorem Rd.boolX (hX : XOk X) {t : Nat} (hk : (X.ty t).k = .bool) : Rd X.P w t (fun cs => ∃ b, cs = [.bool b]) := Rd.bool (und_bool hX hk)

theorem Rd.lenX (hX : XOk X) {t : Nat} {l : List (Nat × Nat)} (hk : (X.ty t).k = .st l) : Rd X.P w t (fun cs => cs.length = (X.ty t).size) := by
  obtain ⟨g, hg, _⟩ := und_st hX hk
  rw [← cellsOf_ok hX (ok_of_kind hX (t := t) (by rw [hk]; simp))]
  exact Rd.len hg

theorem Rd.lenAX (hX : XOk X) {t n e : Nat} (hk : (X.ty t).k = .arr n e) : Rd X.P w t (fun cs => cs.length = (X.ty t).size) := by
  rw [← cellsOf_ok hX (ok_of_kind hX (t := t) (by rw [hk]; simp))]
  exact Rd.lenA (und_arr hX hk)

theorem Rd.fieldX (hX : XOk X) {t : Nat} {l : List (Nat × Nat)} (hk : (X.ty t).k = .st l) (i : Nat) {o u : Nat} (hi : lnth l i = some (o, u)) (hu : (X.ty u).ok = true) {Φ : List Value → Prop} (h : Rd X.P w u Φ) :
    Rd X.P w t (fun cs => Φ ((cs.drop o).take (X.ty u).size)) := by
  obtain ⟨g, hg, hgf⟩ := und_st hX hk
  obtain ⟨f, hf, rfl, rfl⟩ : ∃ f, g[i]? = some f ∧ f.offset = o ∧ f.type = u := by
    rw [← hgf, lnth_get, List.getElem?_map, Option.map_eq_some_iff] at hi
    obtain ⟨f, h1, h2⟩ := hi
    cases h2
    exact ⟨f, by simpa using h1, rfl, rfl⟩
  rw [← cellsOf_ok hX hu]
  exact Rd.field hg hf h

theorem Rd.elemX (hX : XOk X) {t n e : Nat} (hk : (X.ty t).k = .arr n e) (he : (X.ty e).ok = true) (i : Nat) (hi : i < n) {Φ : List Value → Prop} (h : Rd X.P w e Φ) :
    Rd X.P w t (fun cs => Φ ((cs.drop (i * (X.ty e).size)).take (X.ty e).size)) := by
  rw [← cellsOf_ok hX he]
  exact Rd.elem (und_arr hX hk) hi h

theorem Rd.sliceX (hX : XOk X) {t e : Nat} (k : EK) (hk : (X.ty t).k = .slc e) (he : (X.ty e).ok = true) (hs : (X.ty e).size = k.size) (hb : Nat.ble 1 (X.ty e).bytes = true) (h : Rd X.P w e (fun cs => ∃ y : k.T, RepL no w (k.enc y) cs)) :
    Rd X.P w t (fun cs => ∃ l v, cs = [v] ∧ Rep no w (.sl k l) v) :=
  Rd.slice k (und_slc hX hk) (by rw [cellsOf_ok hX he, hs]) (by rw [bytesOf_ok hX he]; exact Nat.le_of_ble_eq_true hb) h

theorem rep_i (n : Int) : Rep no w (DV.int n) (.int .i64 n) := .lit _ rfl
theorem rep_b (b : Bool) : Rep no w (DV.bo b) (.bool b) := .lit _ rfl

theorem Rd.ints (hX : XOk X) {t e : Nat} (hk : (X.ty t).k = .slc e) (he : (X.ty e).k = .int .i64) (hok : (X.ty e).ok = true) (hs : (X.ty e).size = 1) (hb : Nat.ble 1 (X.ty e).bytes = true) : Rd X.P w t (fun cs => ∃ (l : List Int) (v : Value), cs = [v] ∧ Rep no w (.sl .int l) v) :=
  Rd.sliceX hX .int hk hok hs hb (Rd.mono (Rd.intX hX he) fun cs ⟨n, h, _⟩ => ⟨n, by rw [h]; exact repL_cons (rep_i n) repL_nil⟩)

theorem Rd.bools (hX : XOk X) {t e : Nat} (hk : (X.ty t).k = .slc e) (he : (X.ty e).k = .bool) (hok : (X.ty e).ok = true) (hs : (X.ty e).size = 1) (hb : Nat.ble 1 (X.ty e).bytes = true) : Rd X.P w t (fun cs => ∃ (l : List Bool) (v : Value), cs = [v] ∧ Rep no w (.sl .bool l) v) :=
  Rd.sliceX hX .bool hk hok hs hb (Rd.mono (Rd.boolX hX he) fun cs ⟨n, h⟩ => ⟨n, by rw [h]; exact repL_cons (rep_b n) repL_nil⟩)

theorem one_of {cs : List Value} {o n : Nat} {v : Value} (h : (cs.drop o).take n = [v]) : cs[o]? = some v := by
  have h1 : ((cs.drop o).take n)[0]? = some v := by rw [h]; rfl
  rw [List.getElem?_take] at h1
  split at h1
  · simpa using h1
  · cases h1

theorem Rd.opX (hX : XOk X) {t a : Nat} (hk : (X.ty t).k = .st [(0, a), (1, a), (2, a), (3, a)]) (hs : (X.ty t).size = 4) (ha : (X.ty a).k = .int .i64) (hok : (X.ty a).ok = true) : Rd X.P w t (fun cs => ∃ y : Op, RepL no w (EK.op.enc y) cs) := by
  have f (i o : Nat) (h : lnth [(0, a), (1, a), (2, a), (3, a)] i = some (o, a)) := Rd.fieldX (w := w) hX hk i h hok (Rd.intX hX ha)
  refine Rd.mono (Rd.and (Rd.lenX hX hk) (Rd.and (f 0 0 rfl) (Rd.and (f 1 1 rfl) (Rd.and (f 2 2 rfl) (f 3 3 rfl))))) ?_
  rintro cs ⟨hl, ⟨k, h0, _⟩, ⟨x, h1, _⟩, ⟨y, h2, _⟩, ⟨z, h3, _⟩⟩
  rw [hs] at hl
  match cs, hl with
  | [c0, c1, c2, c3], _ =>
    have e0 := one_of h0; have e1 := one_of h1; have e2 := one_of h2; have e3 := one_of h3
    simp at e0 e1 e2 e3
    subst e0 e1 e2 e3
    exact ⟨⟨k, x, y, z⟩, repL_cons (rep_i _) (repL_cons (rep_i _) (repL_cons (rep_i _) (repL_cons (rep_i _) repL_nil)))⟩

end
end Go.Abs
