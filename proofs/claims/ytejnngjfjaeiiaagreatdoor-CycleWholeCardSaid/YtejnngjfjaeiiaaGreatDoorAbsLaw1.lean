/- From the form's reading of an argument to the abstract data; what a law's contract comes to. -/
import Derived.Test.YtejnngjfjaeiiaaGreatDoorAbsBase1
import Derived.SizedLaws
import Derived.OpenShut
import Derived.Below
import Derived.Carry
import Derived.WalkKit
import Derived.ProofKit
import Derived.ChangeOld
set_option linter.all false
set_option linter.unusedVariables false
set_option linter.unusedSimpArgs false
namespace Go.Abs
open Go.ChangeShapes Go.WideShapes Go.RowKit
section
variable {P:Program} {w:World}
abbrev no:Nat→Prop:=fun _=>False
structure Rd (P:Program) (w:World) (t:Nat) (Φ:List Value→Prop):Prop where
 go:∀ {H:Type} (enc:TypeId × Value→H) (base:Nat) (spare:Nat→Bool) (held:Bool) (fuel:Nat) (cs:List Value) (x:DataW H × List MemPlace),DataW.trod enc P w base spare held fuel t cs=some x →
  (∀ n∈x.1.weights P t,n≤reachBytes)→Φ cs
theorem Rd.mono {t:Nat} {Φ Ψ:List Value→Prop} (h:Rd P w t Φ) (hi:∀ cs,Φ cs→Ψ cs):Rd P w t Ψ:=
 ⟨fun enc base spare held fuel cs x hx hw=>hi cs (h.go enc base spare held fuel cs x hx hw)⟩
theorem Rd.and {t:Nat} {Φ Ψ:List Value→Prop} (h:Rd P w t Φ) (h' : Rd P w t Ψ):Rd P w t (fun cs=>Φ cs∧Ψ cs):=
 ⟨fun enc base spare held fuel cs x hx hw=>⟨h.go enc base spare held fuel cs x hx hw,h'.go enc base spare held fuel cs x hx hw⟩⟩
theorem Rd.int {t:Nat} (ht:P.underlying t=some (.int .i64)):Rd P w t (fun cs=>∃ n,cs=[.int .i64 n]∧(Lit.int .i64 n).wf=true):=
 ⟨fun _ _ _ _ _ _ _ hx _=>let ⟨n,h1,_,h3⟩:=DataW.trod_int ht hx;⟨n,h1,h3⟩⟩
theorem Rd.bool {t:Nat} (ht:P.underlying t=some .bool):Rd P w t (fun cs=>∃ b,cs=[.bool b]):=
 ⟨fun _ _ _ _ _ _ _ hx _=>let ⟨b,h1,_⟩:=DataW.trod_bool ht hx;⟨b,h1⟩⟩
theorem Rd.len {t:Nat} {fs:Array Field} (ht:P.underlying t=some (.struct fs)):Rd P w t (fun cs=>cs.length=P.cellsOf t):=
 ⟨fun _ _ _ _ _ _ _ hx _=>let ⟨_,_,_,_,h,_⟩:=DataW.trod_struct ht hx;h⟩
theorem Rd.lenA {t n e:Nat} (ht:P.underlying t=some (.array n e)):Rd P w t (fun cs=>cs.length=P.cellsOf t):=
 ⟨fun _ _ _ _ _ _ _ hx _=>let ⟨_,_,_,_,h,_⟩:=DataW.trod_array ht hx;h⟩
theorem weights_all {H : Type} {e : Nat} {ds : List (DataW H)} {i : Nat} {d : DataW H} (hd : ds[i]? = some d) : ∀ n ∈ d.weights P e, n ∈ DataW.weightsAll P e ds := by
  induction ds generalizing i with
  | nil => simp at hd
  | cons x r ih =>
    intro n hn
    simp only [DataW.weightsAll, List.mem_append]
    cases i with
    | zero => simp at hd; subst hd; exact .inl hn
    | succ i => exact .inr (ih (by simpa using hd) n hn)
theorem Rd.field {t:Nat} {fs:Array Field} (ht:P.underlying t=some (.struct fs)) {i:Nat} {f:Field} (hf:fs[i]? = some f) {Φ:List Value→Prop} (h:Rd P w f.type Φ):Rd P w t (fun cs=>Φ ((cs.drop f.offset).take (P.cellsOf f.type))):=by
 constructor
 intro H enc base spare held fuel cs x hx hw
 obtain ⟨xs,n,_,rfl,_,hlen,hfs⟩:=DataW.trod_struct ht hx
 have h1:=hfs i f hf
 have hi:i < fs.size:=(Array.getElem?_eq_some_iff.1 hf).1
 have h2:xs[i]? = some xs[i]:=List.getElem?_eq_getElem (by omega)
 rw [h2] at h1
 refine h.go enc base spare held n _ _ h1 fun m hm=>hw m ?_
 simp only [DataW.weights,ht]
 refine DataW.weights_mem_each (j:=i) (t:=f.type) (d:=xs[i].1) ?_ ?_ m hm
 ·rw [List.getElem?_map,Array.getElem?_toList,hf];rfl
 ·rw [List.getElem?_map,h2];rfl
theorem Rd.elem {t n e:Nat} (ht:P.underlying t=some (.array n e)) {i:Nat} (hi:i < n) {Φ:List Value→Prop} (h:Rd P w e Φ):Rd P w t (fun cs=>Φ ((cs.drop (i * P.cellsOf e)).take (P.cellsOf e))):=by
 constructor
 intro H enc base spare held fuel cs x hx hw
 obtain ⟨xs,m,_,rfl,_,hlen,hfs⟩:=DataW.trod_array ht hx
 have h1:=hfs i hi
 have h2:xs[i]? = some xs[i]:=List.getElem?_eq_getElem (by omega)
 rw [h2] at h1
 refine h.go enc base spare held m _ _ h1 fun k hk=>hw k ?_
 simp only [DataW.weights,ht]
 exact weights_all (i:=i) (d:=xs[i].1) (by rw [List.getElem?_map,h2];rfl) k hk
theorem cells?_get {base n:Nat} {a:Addr} {cs:List Value} (h:w.cells? base a n=some cs):cs.length=n∧∀ i,i < n→w.cell? (a.add i)=cs[i]?:=by
 unfold World.cells? at h
 split at h
 ·exact ⟨by simpa using mapM_some_length h,fun i hi=>mapM_some_get h i i (by simp [hi])⟩
 ·cases h
theorem Rd.sliceP {t e : Nat} (k : EK) (p : k.T → Prop) (ht : P.underlying t = some (.slice e)) (hc : P.cellsOf e = k.size) (hb : 1 ≤ P.bytesOf e) (he : Rd P w e (fun cs => ∃ y : k.T, RepL no w (k.enc y) cs ∧ p y)) : Rd P w t (fun cs => ∃ l v, cs = [v] ∧ Rep no w (.sl k l) v ∧ ∀ x ∈ l, p x) := by
  constructor
  intro H enc base spare held fuel cs x hx hw
  rcases DataW.trod_slice ht hx with ⟨rfl, _⟩ | ⟨a, len, cap, elems, rest, n, _, rfl, rfl, _, hl, _, hlen, hel, _, _⟩
  · exact ⟨[], _, rfl, .slnil k none 0, fun x hx => by cases hx⟩
  have hwt : (elems.length + rest.length) * P.bytesOf e ≤ reachBytes := by
    refine hw _ ?_
    simp only [DataW.weights, ht, List.length_map]
    exact List.mem_cons_self
  have hcap : elems.length ≤ reachBytes := by
    refine Nat.le_trans ?_ hwt
    refine Nat.le_trans (Nat.le_add_right _ rest.length) ?_
    exact Nat.le_mul_of_pos_right _ hb
  have each : ∀ i, i < len → ∃ (y : k.T) (ecs : List Value), p y ∧ RepL no w (k.enc y) ecs ∧ ecs.length = k.size ∧ ∀ j, j < k.size → w.cell? ((a.add (i * k.size)).add j) = ecs[j]? := by
    intro i hi
    have h1 := hel i hi
    have h2 : elems[i]? = some elems[i] := List.getElem?_eq_getElem (by omega)
    rw [h2, Option.bind_eq_some_iff] at h1
    obtain ⟨ecs, h3, h4⟩ := h1
    obtain ⟨y, hy, hpy⟩ := he.go enc base spare held n ecs _ h4 fun m hm => hw m (by
      simp only [DataW.weights, ht]
      exact List.mem_cons_of_mem _ (List.mem_append_left _ (weights_all (i := i) (d := elems[i].1) (by rw [List.getElem?_map, h2]; rfl) m hm)))
    obtain ⟨h5, h6⟩ := cells?_get h3
    rw [hc] at h5 h6
    exact ⟨y, ecs, hpy, hy, h5, h6⟩
  have all : ∀ m, m ≤ len → ∃ (l : List k.T) (vs : List Value), (∀ x ∈ l, p x) ∧ l.length = m ∧ RepL no w (l.flatMap k.enc) vs ∧ vs.length = m * k.size ∧ ∀ j, j < m * k.size → w.cell? (a.add j) = vs[j]? := by
    intro m
    induction m with
    | zero => intro _; exact ⟨[], [], (fun x hx => by cases hx), rfl, repL_nil, by simp, fun j hj => by omega⟩
    | succ m ih =>
      intro hm
      obtain ⟨l, vs, hpl, h1, h2, h3, h4⟩ := ih (by omega)
      obtain ⟨y, ecs, hpy, h5, h6, h7⟩ := each m (by omega)
      refine ⟨l ++ [y], vs ++ ecs, (fun x hx => by
        rcases List.mem_append.1 hx with hx | hx
        · exact hpl x hx
        · rw [List.mem_singleton.1 hx]; exact hpy), by simp [h1], by rw [List.flatMap_append]; simpa using repL_append h2 h5, by rw [List.length_append, h3, h6, Nat.succ_mul], fun j hj => ?_⟩
      by_cases hjm : j < m * k.size
      · rw [h4 j hjm, List.getElem?_append_left (by omega)]
      · rw [List.getElem?_append_right (by omega), h3, ← h7 (j - m * k.size) (by rw [Nat.succ_mul] at hj; omega), Addr.add_add]
        congr 2
        omega
  obtain ⟨l, vs, hpl, h1, h2, h3, h4⟩ := all len (Nat.le_refl _)
  cases len with
  | zero =>
    have : l = [] := List.eq_nil_of_length_eq_zero h1
    subst this
    exact ⟨[], _, rfl, .slnil k (some a) cap, hpl⟩
  | succ len =>
    have hpos := k.pos
    have hn : 0 < (len + 1) * k.size := Nat.mul_pos (Nat.succ_pos _) hpos
    have hspot : a.spot = none := by
      have h5 := h4 0 hn
      rw [List.getElem?_eq_getElem (by omega)] at h5
      have := World.cell?_spot h5
      cases a with | mk b o s => cases s with
        | none => rfl
        | some s => simp [Addr.add] at this
    refine ⟨l, _, rfl, ?_, hpl⟩
    have key := Rep.sl (O := no) (w := w) k l a cap vs (fun _ h => h) hspot (by omega) (by unfold maxN; unfold reachBytes at hcap; omega) h2.1 h2.2 (fun j v hv => ?_)
    · rw [h1] at key
      exact key
    · have hj : j < (len + 1) * k.size := by rw [← h3]; exact (List.getElem?_eq_some_iff.1 hv).1
      rw [← hv, ← h4 j hj, add_spot hspot]
theorem Rd.slice {t e:Nat} (k:EK) (ht:P.underlying t=some (.slice e)) (hc:P.cellsOf e=k.size) (hb:1≤P.bytesOf e) (he:Rd P w e (fun cs=>∃ y:k.T,RepL no w (k.enc y) cs)):Rd P w t (fun cs=>∃ l v,cs=[v]∧Rep no w (.sl k l) v):=
 (Rd.sliceP k (fun _=>True) ht hc hb (he.mono fun cs ⟨y,hy⟩=>⟨y,hy,trivial⟩)).mono fun cs ⟨l,v,h1,h2,_⟩=>⟨l,v,h1,h2⟩
end
end Go.Abs
namespace Go.Abs
open Go.ChangeShapes Go.WideShapes Go.RowKit
section
variable {X:Ctx} {w:World}
theorem cellsOf_ok (hX:XOk X) {t:Nat} (h:(X.ty t).ok=true):X.P.cellsOf t=(X.ty t).size:=by
 obtain ⟨j,z,hj,hs,_⟩:=(hX.ty t h).info
 simp [Program.cellsOf,hj,hs]
theorem bytesOf_ok (hX:XOk X) {t:Nat} (h:(X.ty t).ok=true):X.P.bytesOf t=(X.ty t).bytes:=by
 obtain ⟨j,z,hj,_,hb,_⟩:=(hX.ty t h).info
 simp [Program.bytesOf,hj,hb]
theorem Rd.intX (hX:XOk X) {t:Nat} (hk:(X.ty t).k = .int .i64):Rd X.P w t (fun cs=>∃ n,cs=[.int .i64 n]∧(Lit.int .i64 n).wf=true):=Rd.int (und_int hX hk)
theorem Rd.boolX (hX:XOk X) {t:Nat} (hk:(X.ty t).k = .bool):Rd X.P w t (fun cs=>∃ b,cs=[.bool b]):=Rd.bool (und_bool hX hk)
theorem Rd.lenX (hX:XOk X) {t:Nat} {l:List (Nat × Nat)} (hk:(X.ty t).k = .st l):Rd X.P w t (fun cs=>cs.length=(X.ty t).size):=by
 obtain ⟨g,hg,_⟩:=und_st hX hk
 rw [← cellsOf_ok hX (ok_of_kind hX (t:=t) (by rw [hk];simp))]
 exact Rd.len hg
theorem Rd.lenAX (hX:XOk X) {t n e:Nat} (hk:(X.ty t).k = .arr n e):Rd X.P w t (fun cs=>cs.length=(X.ty t).size):=by
 rw [← cellsOf_ok hX (ok_of_kind hX (t:=t) (by rw [hk];simp))]
 exact Rd.lenA (und_arr hX hk)
theorem Rd.fieldX (hX:XOk X) {t:Nat} {l:List (Nat × Nat)} (hk:(X.ty t).k = .st l) (i:Nat) {o u:Nat} (hi:lnth l i=some (o,u)) (hu:(X.ty u).ok=true) {Φ:List Value→Prop} (h:Rd X.P w u Φ) :
  Rd X.P w t (fun cs=>Φ ((cs.drop o).take (X.ty u).size)):=by
 obtain ⟨g,hg,hgf⟩:=und_st hX hk
 obtain ⟨f,hf,rfl,rfl⟩:∃ f,g[i]? = some f∧f.offset=o∧f.type=u:=by
  rw [← hgf,lnth_get,List.getElem?_map,Option.map_eq_some_iff] at hi
  obtain ⟨f,h1,h2⟩:=hi
  cases h2
  exact ⟨f,by simpa using h1,rfl,rfl⟩
 rw [← cellsOf_ok hX hu]
 exact Rd.field hg hf h
theorem Rd.elemX (hX:XOk X) {t n e:Nat} (hk:(X.ty t).k = .arr n e) (he:(X.ty e).ok=true) (i:Nat) (hi:i < n) {Φ:List Value→Prop} (h:Rd X.P w e Φ) :
  Rd X.P w t (fun cs=>Φ ((cs.drop (i * (X.ty e).size)).take (X.ty e).size)):=by
 rw [← cellsOf_ok hX he]
 exact Rd.elem (und_arr hX hk) hi h
theorem Rd.sliceX (hX:XOk X) {t e:Nat} (k:EK) (hk:(X.ty t).k = .slc e) (he:(X.ty e).ok=true) (hs:(X.ty e).size=k.size) (hb:Nat.ble 1 (X.ty e).bytes=true) (h:Rd X.P w e (fun cs=>∃ y:k.T,RepL no w (k.enc y) cs)) :
  Rd X.P w t (fun cs=>∃ l v,cs=[v]∧Rep no w (.sl k l) v):=
 Rd.slice k (und_slc hX hk) (by rw [cellsOf_ok hX he,hs]) (by rw [bytesOf_ok hX he];exact Nat.le_of_ble_eq_true hb) h
theorem rep_i (n:Int):Rep no w (DV.int n) (.int .i64 n):=.lit _ rfl
theorem rep_b (b:Bool):Rep no w (DV.bo b) (.bool b):=.lit _ rfl
theorem Rd.ints (hX:XOk X) {t e:Nat} (hk:(X.ty t).k = .slc e) (he:(X.ty e).k = .int .i64) (hok:(X.ty e).ok=true) (hs:(X.ty e).size=1) (hb:Nat.ble 1 (X.ty e).bytes=true):Rd X.P w t (fun cs=>∃ (l:List Int) (v:Value),cs=[v]∧Rep no w (.sl .int l) v):=
 Rd.sliceX hX .int hk hok hs hb (Rd.mono (Rd.intX hX he) fun cs ⟨n,h,_⟩=>⟨n,by rw [h];exact repL_cons (rep_i n) repL_nil⟩)
theorem Rd.bools (hX:XOk X) {t e:Nat} (hk:(X.ty t).k = .slc e) (he:(X.ty e).k = .bool) (hok:(X.ty e).ok=true) (hs:(X.ty e).size=1) (hb:Nat.ble 1 (X.ty e).bytes=true):Rd X.P w t (fun cs=>∃ (l:List Bool) (v:Value),cs=[v]∧Rep no w (.sl .bool l) v):=
 Rd.sliceX hX .bool hk hok hs hb (Rd.mono (Rd.boolX hX he) fun cs ⟨n,h⟩=>⟨n,by rw [h];exact repL_cons (rep_b n) repL_nil⟩)
theorem one_of {cs:List Value} {o n:Nat} {v:Value} (h:(cs.drop o).take n=[v]):cs[o]? = some v:=by
 have h1:((cs.drop o).take n)[0]? = some v:=by rw [h];rfl
 rw [List.getElem?_take] at h1
 split at h1
 ·simpa using h1
 ·cases h1
theorem Rd.opX (hX : XOk X) {t a : Nat} (hk : (X.ty t).k = .st [(0, a), (1, a), (2, a), (3, a)]) (hs : (X.ty t).size = 4) (ha : (X.ty a).k = .int .i64) (hok : (X.ty a).ok = true) : Rd X.P w t (fun cs => ∃ y : Op, RepL no w (EK.op.enc y) cs) := by
  have f (i o : Nat) (h : lnth [(0, a), (1, a), (2, a), (3, a)] i = some (o, a)) := Rd.fieldX (w := w) hX hk i h hok (Rd.intX hX ha)
  refine Rd.mono (Rd.and (Rd.lenX hX hk) (Rd.and (f 0 0 rfl) (Rd.and (f 1 1 rfl) (Rd.and (f 2 2 rfl) (f 3 3 rfl))))) ?_
  rintro cs ⟨hl, ⟨k, h0, _⟩, ⟨x, h1, _⟩, ⟨y, h2, _⟩, ⟨z, h3, _⟩⟩
  rw [hs] at hl
  match cs, hl with
  | [c0, c1, c2, c3], _ =>
    have e0 := one_of h0; have e1 := one_of h1; have e2 := one_of h2; have e3 := one_of h3
    simp at e0 e1 e2 e3
    subst e0 e1 e2 e3
    exact ⟨⟨k, x, y, z⟩, repL_cons (rep_i _) (repL_cons (rep_i _) (repL_cons (rep_i _) (repL_cons (rep_i _) repL_nil)))⟩
end
end Go.Abs
namespace Go.Abs
open Go.ChangeShapes Go.WideShapes Go.RowKit
section
variable {X:Ctx} {w:World}
theorem Rd.listsX (hX : XOk X) {t e i : Nat} (hk : (X.ty t).k = .arr 3 e) (hs : (X.ty t).size = 3) (he : (X.ty e).k = .slc i) (heo : (X.ty e).ok = true) (hes : (X.ty e).size = 1) (hi : (X.ty i).k = .int .i64) (hio : (X.ty i).ok = true) (his : (X.ty i).size = 1) (hib : Nat.ble 1 (X.ty i).bytes = true) :
    Rd X.P w t (fun cs => ∃ y : Lists, RepL no w (EK.lists.enc y) cs) := by
  have f (j : Nat) (h : j < 3) := Rd.elemX (w := w) hX hk heo j h (Rd.ints hX he hi hio his hib)
  refine Rd.mono (Rd.and (Rd.lenAX hX hk) (Rd.and (f 0 (by decide)) (Rd.and (f 1 (by decide)) (f 2 (by decide))))) ?_
  rintro cs ⟨hl, ⟨l0, v0, h0, r0⟩, ⟨l1, v1, h1, r1⟩, ⟨l2, v2, h2, r2⟩⟩
  rw [hs] at hl
  rw [hes] at h0 h1 h2
  match cs, hl with
  | [c0, c1, c2], _ =>
    have e0 := one_of h0; have e1 := one_of h1; have e2 := one_of h2
    simp at e0 e1 e2
    subst e0 e1 e2
    exact ⟨⟨l0, l1, l2⟩, repL_cons r0 (repL_cons r1 (repL_cons r2 repL_nil))⟩
theorem Rd.arr4X (hX : XOk X) {t i : Nat} (hk : (X.ty t).k = .arr 4 i) (hs : (X.ty t).size = 4) (hi : (X.ty i).k = .int .i64) (hio : (X.ty i).ok = true) (his : (X.ty i).size = 1) :
    Rd X.P w t (fun cs => ∃ a b c d : Int, cs = [.int .i64 a, .int .i64 b, .int .i64 c, .int .i64 d]) := by
  have f (j : Nat) (h : j < 4) := Rd.elemX (w := w) hX hk hio j h (Rd.intX hX hi)
  refine Rd.mono (Rd.and (Rd.lenAX hX hk) (Rd.and (f 0 (by decide)) (Rd.and (f 1 (by decide)) (Rd.and (f 2 (by decide)) (f 3 (by decide)))))) ?_
  rintro cs ⟨hl, ⟨a, h0, _⟩, ⟨b, h1, _⟩, ⟨c, h2, _⟩, ⟨d, h3, _⟩⟩
  rw [hs] at hl
  rw [his] at h0 h1 h2 h3
  match cs, hl with
  | [c0, c1, c2, c3], _ =>
    have e0 := one_of h0; have e1 := one_of h1; have e2 := one_of h2; have e3 := one_of h3
    simp at e0 e1 e2 e3
    subst e0 e1 e2 e3
    exact ⟨a, b, c, d, rfl⟩
structure ThreadT (X:Ctx) (t b r i l o op:Nat):Prop where
 hk:(X.ty t).k = .st [(0,b),(1,r),(5,l),(8,i),(9,i),(10,i),(11,o),(12,i),(13,i),(14,i)]
 hs:(X.ty t).size=15
 hb:(X.ty b).k = .bool
 hbs:(X.ty b).size=1
 hbo:(X.ty b).ok=true
 hi:(X.ty i).k = .int .i64
 his:(X.ty i).size=1
 hio:(X.ty i).ok=true
 hib:Nat.ble 1 (X.ty i).bytes=true
 hr:(X.ty r).k = .arr 4 i
 hrs:(X.ty r).size=4
 hro:(X.ty r).ok=true
 ho:(X.ty o).k = .slc op
 hos:(X.ty o).size=1
 hoo:(X.ty o).ok=true
 hop:(X.ty op).k = .st [(0,i),(1,i),(2,i),(3,i)]
 hops:(X.ty op).size=4
 hopo:(X.ty op).ok=true
 hopb:Nat.ble 1 (X.ty op).bytes=true
theorem Rd.threadX (hX : XOk X) {t b r i l o op e : Nat} (T : ThreadT X t b r i l o op) (hl : (X.ty l).k = .arr 3 e) (hls : (X.ty l).size = 3) (hlo : (X.ty l).ok = true) (he : (X.ty e).k = .slc i) (heo : (X.ty e).ok = true) (hes : (X.ty e).size = 1) :
    Rd X.P w t (fun cs => ∃ y : Thread, RepL no w (EK.thread.enc y) cs) := by
  have fi (j k : Nat) (h : lnth [(0, b), (1, r), (5, l), (8, i), (9, i), (10, i), (11, o), (12, i), (13, i), (14, i)] j = some (k, i)) := Rd.fieldX (w := w) hX T.hk j h T.hio (Rd.intX hX T.hi)
  have fb := Rd.fieldX (w := w) hX T.hk 0 (o := 0) (u := b) rfl T.hbo (Rd.boolX hX T.hb)
  have fr := Rd.fieldX (w := w) hX T.hk 1 (o := 1) (u := r) rfl T.hro (Rd.arr4X hX T.hr T.hrs T.hi T.hio T.his)
  have fl := Rd.fieldX (w := w) hX T.hk 2 (o := 5) (u := l) rfl hlo (Rd.listsX hX hl hls he heo hes T.hi T.hio T.his T.hib)
  have fo := Rd.fieldX (w := w) hX T.hk 6 (o := 11) (u := o) rfl T.hoo (Rd.sliceX hX .op T.ho T.hopo T.hops T.hopb (Rd.opX hX T.hop T.hops T.hi T.hio))
  refine Rd.mono (Rd.and (Rd.lenX hX T.hk) (Rd.and fb (Rd.and fr (Rd.and fl (Rd.and fo (Rd.and (fi 3 8 rfl) (Rd.and (fi 4 9 rfl) (Rd.and (fi 5 10 rfl) (Rd.and (fi 7 12 rfl) (Rd.and (fi 8 13 rfl) (fi 9 14 rfl))))))))))) ?_
  rintro cs ⟨hlen, ⟨live, g0⟩, ⟨r0, r1, r2, r3, g1⟩, ⟨cache, g2⟩, ⟨ops, ov, g3, g4⟩, ⟨ep, g5, _⟩, ⟨st, g6, _⟩, ⟨ro, g7, _⟩, ⟨pc, g8, _⟩, ⟨x, g9, _⟩, ⟨y, g10, _⟩⟩
  rw [T.hs] at hlen
  rw [T.hbs] at g0
  rw [T.hrs] at g1
  rw [hls] at g2
  rw [T.hos] at g3
  rw [T.his] at g5 g6 g7 g8 g9 g10
  match cs, hlen with
  | [c0, c1, c2, c3, c4, c5, c6, c7, c8, c9, c10, c11, c12, c13, c14], _ =>
    have e0 := one_of g0
    have e3 := one_of g3; have e5 := one_of g5; have e6 := one_of g6; have e7 := one_of g7; have e8 := one_of g8; have e9 := one_of g9; have e10 := one_of g10
    simp at e0 e3 e5 e6 e7 e8 e9 e10 g1 g2
    obtain ⟨q1, q2, q3, q4⟩ := g1
    subst e0 e3 e5 e6 e7 e8 e9 e10 q1 q2 q3 q4
    exact ⟨⟨live, r0, r1, r2, r3, cache, ep, st, ro, ops, pc, x, y⟩, repL_cons (rep_b _) (repL_cons (rep_i _) (repL_cons (rep_i _) (repL_cons (rep_i _) (repL_cons (rep_i _) (repL_append g2
      (repL_cons (rep_i _) (repL_cons (rep_i _) (repL_cons (rep_i _) (repL_cons g4 (repL_cons (rep_i _) (repL_cons (rep_i _) (repL_cons (rep_i _) repL_nil))))))))))))⟩
theorem I64.of {n:Int} (h:(Lit.int .i64 n).wf=true):I64 n:=by
 simp [Lit.wf,IntKind.min,IntKind.max,IntKind.bits,IntKind.signed] at h
 unfold I64
 omega
def Col.fits (c:Col):Prop:=I64 c.phase∧I64 c.epoch∧I64 c.at_∧I64 c.field_∧I64 c.seek∧I64 c.card
theorem Rd.colI (hX : XOk X) {t b i sl : Nat} (hk : (X.ty t).k = .st [(0, i), (1, i), (2, b), (3, sl), (4, b), (5, i), (6, i), (7, i), (8, i), (9, b)]) (hs : (X.ty t).size = 10) (hb : (X.ty b).k = .bool) (hbs : (X.ty b).size = 1) (hbo : (X.ty b).ok = true)
    (hi : (X.ty i).k = .int .i64) (his : (X.ty i).size = 1) (hio : (X.ty i).ok = true) (hib : Nat.ble 1 (X.ty i).bytes = true) (hsl : (X.ty sl).k = .slc i) (hsls : (X.ty sl).size = 1) (hslo : (X.ty sl).ok = true) :
    Rd X.P w t (fun cs => ∃ y : Col, RepL no w y.enc cs ∧ y.fits) := by
  have fi (j k : Nat) (h : lnth [(0, i), (1, i), (2, b), (3, sl), (4, b), (5, i), (6, i), (7, i), (8, i), (9, b)] j = some (k, i)) := Rd.fieldX (w := w) hX hk j h hio (Rd.intX hX hi)
  have fb (j k : Nat) (h : lnth [(0, i), (1, i), (2, b), (3, sl), (4, b), (5, i), (6, i), (7, i), (8, i), (9, b)] j = some (k, b)) := Rd.fieldX (w := w) hX hk j h hbo (Rd.boolX hX hb)
  have fs := Rd.fieldX (w := w) hX hk 3 (o := 3) (u := sl) rfl hslo (Rd.ints hX hsl hi hio his hib)
  refine Rd.mono (Rd.and (Rd.lenX hX hk) (Rd.and (fi 0 0 rfl) (Rd.and (fi 1 1 rfl) (Rd.and (fb 2 2 rfl) (Rd.and fs (Rd.and (fb 4 4 rfl) (Rd.and (fi 5 5 rfl) (Rd.and (fi 6 6 rfl) (Rd.and (fi 7 7 rfl) (Rd.and (fi 8 8 rfl) (fb 9 9 rfl))))))))))) ?_
  rintro cs ⟨hlen, ⟨a0, g0, w0⟩, ⟨a1, g1, w1⟩, ⟨a2, g2⟩, ⟨a3, v3, g3, r3⟩, ⟨a4, g4⟩, ⟨a5, g5, w5⟩, ⟨a6, g6, w6⟩, ⟨a7, g7, w7⟩, ⟨a8, g8, w8⟩, ⟨a9, g9⟩⟩
  rw [hs] at hlen
  rw [his] at g0 g1 g5 g6 g7 g8
  rw [hbs] at g2 g4 g9
  rw [hsls] at g3
  match cs, hlen with
  | [c0, c1, c2, c3, c4, c5, c6, c7, c8, c9], _ =>
    have e0 := one_of g0; have e1 := one_of g1; have e2 := one_of g2; have e3 := one_of g3; have e4 := one_of g4
    have e5 := one_of g5; have e6 := one_of g6; have e7 := one_of g7; have e8 := one_of g8; have e9 := one_of g9
    simp at e0 e1 e2 e3 e4 e5 e6 e7 e8 e9
    subst e0 e1 e2 e3 e4 e5 e6 e7 e8 e9
    exact ⟨⟨a0, a1, a2, a3, a4, a5, a6, a7, a8, a9⟩, repL_cons (rep_i _) (repL_cons (rep_i _) (repL_cons (rep_b _) (repL_cons r3 (repL_cons (rep_b _) (repL_cons (rep_i _) (repL_cons (rep_i _) (repL_cons (rep_i _) (repL_cons (rep_i _) (repL_cons (rep_b _) repL_nil))))))))), I64.of w0, I64.of w1, I64.of w5, I64.of w6, I64.of w7, I64.of w8⟩
theorem Rd.intsI (hX:XOk X) {t e:Nat} (hk:(X.ty t).k = .slc e) (he:(X.ty e).k = .int .i64) (hok:(X.ty e).ok=true) (hs:(X.ty e).size=1) (hb:Nat.ble 1 (X.ty e).bytes=true):Rd X.P w t (fun cs=>∃ (l:List Int) (v:Value),cs=[v]∧Rep no w (.sl .int l) v∧∀ x∈l,I64 x):=
 Rd.sliceP .int I64 (und_slc hX hk) (by rw [cellsOf_ok hX hok,hs];rfl) (by rw [bytesOf_ok hX hok];exact Nat.le_of_ble_eq_true hb) (Rd.mono (Rd.intX hX he) fun cs ⟨n,h,hw⟩=>⟨n,by rw [h];exact repL_cons (rep_i n) repL_nil,I64.of hw⟩)
theorem Rd.pageX (hX : XOk X) {t a : Nat} (hk : (X.ty t).k = .st [(0, a), (1, a)]) (hs : (X.ty t).size = 2) (ha : (X.ty a).k = .int .i64) (hok : (X.ty a).ok = true) : Rd X.P w t (fun cs => ∃ y : Page, RepL no w (EK.page.enc y) cs) := by
  have f (i o : Nat) (h : lnth [(0, a), (1, a)] i = some (o, a)) := Rd.fieldX (w := w) hX hk i h hok (Rd.intX hX ha)
  refine Rd.mono (Rd.and (Rd.lenX hX hk) (Rd.and (f 0 0 rfl) (f 1 1 rfl))) ?_
  rintro cs ⟨hl, ⟨k, h0, _⟩, ⟨x, h1, _⟩⟩
  rw [hs] at hl
  match cs, hl with
  | [c0, c1], _ =>
    have e0 := one_of h0; have e1 := one_of h1
    simp at e0 e1
    subst e0 e1
    exact ⟨⟨k, x⟩, repL_cons (rep_i _) (repL_cons (rep_i _) repL_nil)⟩
structure HpT (X:Ctx) (t sl sp l sb i b p:Nat):Prop where
 hk:(X.ty t).k = .st [(0,sl),(1,sp),(2,l),(5,sb)]
 hs:(X.ty t).size=6
 hsl:(X.ty sl).k = .slc i
 hsls:(X.ty sl).size=1
 hslo:(X.ty sl).ok=true
 hsp:(X.ty sp).k = .slc p
 hsps:(X.ty sp).size=1
 hspo:(X.ty sp).ok=true
 hl:(X.ty l).k = .arr 3 sl
 hls:(X.ty l).size=3
 hlo:(X.ty l).ok=true
 hsb:(X.ty sb).k = .slc b
 hsbs:(X.ty sb).size=1
 hsbo:(X.ty sb).ok=true
 hi:(X.ty i).k = .int .i64
 his:(X.ty i).size=1
 hio:(X.ty i).ok=true
 hib:Nat.ble 1 (X.ty i).bytes=true
 hb:(X.ty b).k = .bool
 hbs:(X.ty b).size=1
 hbo:(X.ty b).ok=true
 hbb:Nat.ble 1 (X.ty b).bytes=true
 hp:(X.ty p).k = .st [(0,i),(1,i)]
 hps:(X.ty p).size=2
 hpo:(X.ty p).ok=true
 hpb:Nat.ble 1 (X.ty p).bytes=true
theorem Rd.hpX (hX : XOk X) {t sl sp l sb i b p : Nat} (T : HpT X t sl sp l sb i b p) : Rd X.P w t (fun cs => ∃ y : Hp, RepL no w y.enc cs ∧ ∀ x ∈ y.w, I64 x) := by
  have f0 := Rd.fieldX (w := w) hX T.hk 0 (o := 0) (u := sl) rfl T.hslo (Rd.intsI hX T.hsl T.hi T.hio T.his T.hib)
  have f1 := Rd.fieldX (w := w) hX T.hk 1 (o := 1) (u := sp) rfl T.hspo (Rd.sliceX hX .page T.hsp T.hpo T.hps T.hpb (Rd.pageX hX T.hp T.hps T.hi T.hio))
  have f2 := Rd.fieldX (w := w) hX T.hk 2 (o := 2) (u := l) rfl T.hlo (Rd.listsX hX T.hl T.hls T.hsl T.hslo T.hsls T.hi T.hio T.his T.hib)
  have f3 := Rd.fieldX (w := w) hX T.hk 3 (o := 5) (u := sb) rfl T.hsbo (Rd.bools hX T.hsb T.hb T.hbo T.hbs T.hbb)
  refine Rd.mono (Rd.and (Rd.lenX hX T.hk) (Rd.and f0 (Rd.and f1 (Rd.and f2 f3)))) ?_
  rintro cs ⟨hlen, ⟨w0, v0, g0, r0, hw0⟩, ⟨w1, v1, g1, r1⟩, ⟨w2, g2⟩, ⟨w3, v3, g3, r3⟩⟩
  rw [T.hs] at hlen
  rw [T.hsls] at g0
  rw [T.hsps] at g1
  rw [T.hls] at g2
  rw [T.hsbs] at g3
  match cs, hlen with
  | [c0, c1, c2, c3, c4, c5], _ =>
    have e0 := one_of g0; have e1 := one_of g1; have e3 := one_of g3
    simp at e0 e1 e3 g2
    subst e0 e1 e3
    exact ⟨⟨w0, w1, w2, w3⟩, repL_cons r0 (repL_cons r1 (repL_append g2 (repL_cons r3 repL_nil))), hw0⟩
end
end Go.Abs
namespace Go.Abs
open Go.RowKit
theorem law_calls_g {X:Ctx} {f:Nat} {args:List TV} {vs:List Value} {w:World} (hg:GOk X (OO (fun _=>.unused) no) w) (h:Spec X f [] args (Ret [] (.bo true))) (ha:RepTL (fun _=>.unused) no w args vs) :
  Calls X.P f vs.toArray w fun e w'=>e = .returned (.bool true)∧Below w.heap.size w w':=by
 refine (h.2 (fun _=>.unused) no w vs ⟨fun b b' k hb=>hb.elim,fun b k hb=>hb.elim,fun k hk=>hk.elim⟩ (fun b x hx=>by cases hx) (fun b hb=>absurd rfl hb) hg ha).mono ?_
 rintro e w' ⟨v,N',H',r,rfl,⟨_,rfl⟩,_,_,_,hr,hw,_⟩
 refine ⟨by rw [rep_lit hr],hw.os,hw.tape,hw.output,hw.size,fun k hk=>hw.block k hk ?_⟩
 rintro ⟨b,hb⟩
 exact hb
theorem law_calls {X:Ctx} (hgl:X.gl=[]) {f:Nat} {args:List TV} {vs:List Value} {w:World} (h:Spec X f [] args (Ret [] (.bo true))) (ha:RepTL (fun _=>.unused) no w args vs) :
  Calls X.P f vs.toArray w fun e w'=>e = .returned (.bool true)∧Below w.heap.size w w':=by
 refine (h.2 (fun _=>.unused) no w vs ⟨fun b b' k hb=>hb.elim,fun b k hb=>hb.elim,fun k hk=>hk.elim⟩ (fun b x hx=>by cases hx) (fun b hb=>absurd rfl hb) (fun g xs hx=>?_) ha).mono ?_
 ·rw [hgl] at hx
  cases hx
 ·rintro e w' ⟨v,N',H',r,rfl,⟨_,rfl⟩,_,_,_,hr,hw,_⟩
  refine ⟨by rw [rep_lit hr],hw.os,hw.tape,hw.output,hw.size,fun k hk=>hw.block k hk ?_⟩
  rintro ⟨b,hb⟩
  exact hb
theorem arg_agg {w:World} {xs:List DV} {cs:Array Value} (h:RepL no w xs cs.toList):RepT (fun _=>.unused) no w (.agg (xs.map .d)) (.agg cs):=by
 refine .agg _ _ (repCL_d (h.sub fun k _ ho=>?_))
 rcases ho with ⟨b,hb⟩ | ho
 ·exact hb.elim
 ·exact ho
theorem arg_one {w:World} {x:DV} {v:Value} (h:Rep no w x v):RepT (fun _=>.unused) no w (.c (.d x)) v:=by
 refine .c _ _ (.d _ _ (h.sub fun k _ ho=>?_))
 rcases ho with ⟨b,hb⟩ | ho
 ·exact hb.elim
 ·exact ho
theorem args_nil {N:Names} {S:Nat→Prop} {w:World}:RepTL N S w [] []:=⟨rfl,fun i x v hx=>by simp at hx⟩
theorem args_cons {N:Names} {S:Nat→Prop} {w:World} {x:TV} {v:Value} {xs:List TV} {vs:List Value} (h:RepT N S w x v) (hs:RepTL N S w xs vs):RepTL N S w (x :: xs) (v :: vs):=by
 refine ⟨by simp [hs.1],fun i a b ha hb=>?_⟩
 cases i with
 | zero=>simp at ha hb;subst ha hb;exact h
 | succ i=>exact hs.2 i a b (by simpa using ha) (by simpa using hb)
end Go.Abs
namespace Go.Abs
open Go.ChangeShapes Go.WideShapes Go.RowKit
abbrev nn:Names:=fun _=>.unused
def Opn (P:Program) (t:TypeId) (Ψ:TV→Prop):Prop:=
 ∀ (H:Type) (enc:TypeId × Value→H) (W:World) (base:Nat) (v:Value) (d:DataW H) (ps:List MemPlace),Value.okWide P W .any base t v→DataW.Trod enc P W 0 (fun _=>true) true t v d ps→(∀ n∈d.weights P t,n≤reachBytes)→∃ y,Ψ y∧RepT nn no W y v
def Fits:List (TV→Prop)→List TV→Prop
 | [],[]=>True
 | p :: ps,y :: ys=>p y∧Fits ps ys
 | _,_=>False
theorem Fits.cons {p:TV→Prop} {ps:List (TV→Prop)} {ys:List TV} (h:Fits (p :: ps) ys):∃ y r,ys=y :: r∧p y∧Fits ps r:=by
 cases ys with
 | nil=>exact h.elim
 | cons y r=>exact ⟨y,r,rfl,h.1,h.2⟩
theorem Fits.nil {ys:List TV} (h:Fits [] ys):ys=[]:=by
 cases ys with
 | nil=>rfl
 | cons y r=>exact h.elim
theorem Opn.int {P:Program} {t:Nat} (ht:P.underlying t=some (.int .i64)):Opn P t (fun y=>∃ n:Int,y = .c (.d (.int n))∧(Lit.int .i64 n).wf=true):=by
 intro H enc W base v d ps hv hd _
 obtain ⟨n,rfl,_,_,hw⟩:=open_int ht hv hd
 exact ⟨_,⟨n,rfl,hw⟩,arg_one (rep_i _)⟩
theorem Opn.bool {P:Program} {t:Nat} (ht:P.underlying t=some .bool):Opn P t (fun y=>∃ b:Bool,y = .c (.d (.bo b))):=by
 intro H enc W base v d ps hv hd _
 obtain ⟨b,rfl,_,_⟩:=open_bool ht hv hd
 exact ⟨_,⟨b,rfl⟩,arg_one (rep_b _)⟩
theorem Opn.agg {P:Program} {t:Nat} {τ:Type} {enc:τ→List DV} {fs:Array Field} (ht:P.underlying t=some (.struct fs)) (h:∀ w,Rd P w t (fun cs=>∃ y:τ,RepL no w (enc y) cs)):Opn P t (fun y=>∃ z:τ,y = .dagg (enc z)):=by
 intro H e W base v d ps hv hd hw
 obtain ⟨cs,rfl,_⟩:=okWide_struct ht hv
 obtain ⟨fuel,hf⟩:=hd
 obtain ⟨z,hz⟩:=(h W).go e 0 _ _ fuel _ _ hf hw
 exact ⟨_,⟨z,rfl⟩,arg_agg hz⟩
theorem Opn.aggP {P:Program} {t:Nat} {τ:Type} {enc:τ→List DV} {p:τ→Prop} {fs:Array Field} (ht:P.underlying t=some (.struct fs)) (h:∀ w,Rd P w t (fun cs=>∃ y:τ,RepL no w (enc y) cs∧p y)):Opn P t (fun y=>∃ z:τ,y = .dagg (enc z)∧p z):=by
 intro H e W base v d ps hv hd hw
 obtain ⟨cs,rfl,_⟩:=okWide_struct ht hv
 obtain ⟨fuel,hf⟩:=hd
 obtain ⟨z,hz,hp⟩:=(h W).go e 0 _ _ fuel _ _ hf hw
 exact ⟨_,⟨z,rfl,hp⟩,arg_agg hz⟩
theorem Opn.arr {P:Program} {t n u:Nat} {τ:Type} {enc:τ→List DV} (ht:P.underlying t=some (.array n u)) (hag:∀ W base v,Value.okWide P W .any base t v→∃ cs,v = .agg cs) (h:∀ w,Rd P w t (fun cs=>∃ y:τ,RepL no w (enc y) cs)):Opn P t (fun y=>∃ z:τ,y = .dagg (enc z)):=by
 intro H e W base v d ps hv hd hw
 obtain ⟨cs,rfl⟩:=hag _ _ _ hv
 obtain ⟨fuel,hf⟩:=hd
 obtain ⟨z,hz⟩:=(h W).go e 0 _ _ fuel _ _ hf hw
 exact ⟨_,⟨z,rfl⟩,arg_agg hz⟩
theorem Opn.slice {P:Program} {t e:Nat} (k:EK) (ht:P.underlying t=some (.slice e)) (h:∀ w,Rd P w t (fun cs=>∃ l v,cs=[v]∧Rep no w (.sl k l) v)):Opn P t (fun y=>∃ l,y = .c (.d (.sl k l))):=by
 intro H e W base v d ps hv hd hw
 obtain ⟨a,len,cap,rfl⟩:=okWide_slice ht hv
 obtain ⟨fuel,hf⟩:=hd
 obtain ⟨l,v,hc,hr⟩:=(h W).go e 0 _ _ fuel _ _ hf hw
 simp [Value.cells] at hc
 subst hc
 exact ⟨_,⟨l,rfl⟩,arg_one hr⟩
theorem open_all {P : Program} {H : Type} {enc : TypeId × Value → H} {W : World} {base : Nat} : ∀ (L : List (TypeId × (TV → Prop))) (hL : ∀ x ∈ L, Opn P x.1 x.2) (args : List Value) (ds : List (DataW H)) (p : List MemPlace),
    (∀ (j : Nat) t v, (L.map (·.1))[j]? = some t → args[j]? = some v → Value.okWide P W .any base t v) → DataW.TrodAll enc P W 0 (fun _ => true) true (L.map (·.1)) args ds p → (∀ n ∈ DataW.weightsEach P (L.map (·.1)) ds, n ≤ reachBytes) →
    ∃ ys, Fits (L.map (·.2)) ys ∧ RepTL nn no W ys args := by
  intro L
  induction L with
  | nil =>
    intro _ args ds p _ hA _
    obtain ⟨rfl, rfl, rfl⟩ := trodAll_nil hA
    exact ⟨[], trivial, args_nil⟩
  | cons x L ih =>
    intro hL args ds p hv hA hw
    obtain ⟨v0, vs0, d0, ds0, p0, q0, rfl, rfl, rfl, h0, r0⟩ := trodAll_cons hA
    obtain ⟨y, h1, h2⟩ := hL x List.mem_cons_self H enc W base v0 d0 p0 (hv 0 _ _ rfl rfl) h0 fun n hn => hw n (by
      simp only [List.map_cons, DataW.weightsEach]
      exact List.mem_append_left _ hn)
    obtain ⟨ys, h3, h4⟩ := ih (fun x hx => hL x (List.mem_cons_of_mem _ hx)) vs0 ds0 q0 (fun j t v ht hv' => hv (j + 1) t v (by simpa using ht) (by simpa using hv')) r0 fun n hn => hw n (by
      simp only [List.map_cons, DataW.weightsEach]
      exact List.mem_append_right _ hn)
    exact ⟨y :: ys, ⟨h1, h3⟩, args_cons h2 h4⟩
theorem carry_all {P : Program} {H : Type} {enc : TypeId × Value → H} {W W' : World} (hl : laidOutB P = true) (hb : Below W.heap.size W W') : ∀ (ts : List TypeId) (hr : ∀ t ∈ ts, P.readableRec t = true ∧ t < P.types.size) (args : List Value) (ds : List (DataW H)) (p : List MemPlace),
    DataW.TrodAll enc P W 0 (fun _ => true) true ts args ds p → (∀ x ∈ p, x.block < W.heap.size) → DataW.TrodAll enc P W' 0 (fun b => decide (b < W.heap.size)) true ts args ds p := by
  intro ts
  induction ts with
  | nil =>
    intro _ args ds p hA _
    obtain ⟨rfl, rfl, rfl⟩ := trodAll_nil hA
    exact rfl
  | cons t ts ih =>
    intro hr args ds p hA hp
    obtain ⟨v0, vs0, d0, ds0, p0, q0, rfl, rfl, rfl, h0, r0⟩ := trodAll_cons hA
    refine trodAll_cons_mk (Below.trod hl (hr t List.mem_cons_self).1 (hr t List.mem_cons_self).2 h0 hb fun x hx => hp x (List.mem_append_left _ hx)) (ih (fun t ht => hr t (List.mem_cons_of_mem _ ht)) _ _ _ r0 fun x hx => hp x (List.mem_append_right _ hx))
theorem law_goes {X:Ctx} (hgl:X.gl=[]) {f:Nat} (L:List (TypeId × (TV→Prop))) (hL:∀ x∈L,Opn X.P x.1 x.2) (spec:∀ ys,Fits (L.map (·.2)) ys→Spec X f [] ys (Ret [] (.bo true)))
  (hl:laidOutB X.P=true) (hr:∀ t∈L.map (·.1),X.P.readableRec t=true∧t < X.P.types.size) {H:Type} {enc:TypeId × Value→H} {W:World} {base:Nat} {args:Array Value} {ds:List (DataW H)} {p:List MemPlace} {vt:List TypeId} {gs:List (DataW H)}
  (hgs:gs=[]) (hvt:vt=[]) (hv:∀ (j:Nat) t v,(L.map (·.1))[j]? = some t→args[j]? = some v→Value.okWide X.P W .any base t v) (hA:DataW.TrodAll enc X.P W 0 (fun _=>true) true (L.map (·.1)) args.toList ds p)
  (hw:(DataW.weightsEach X.P (L.map (·.1) ++ vt) (ds ++ gs)).all (·≤reachBytes)=true) (hp:∀ x∈p,x.block < W.heap.size) :
  Calls X.P f args W fun e W'=>e = .returned (.bool true)∧Below W.heap.size W W'∧DataW.TrodAll enc X.P W' 0 (fun b=>decide (b < W.heap.size)) true (L.map (·.1)) args.toList ds p:=by
 subst hgs hvt
 simp only [List.append_nil] at hw
 obtain ⟨ys,h1,h2⟩:=open_all L hL args.toList ds p (fun j t v h h'=>hv j t v h (by simpa using h')) hA fun n hn=>by simpa using List.all_eq_true.1 hw n hn
 have h:=law_calls hgl (spec ys h1) h2
 exact h.mono fun e w' ⟨he,hb⟩=>⟨he,hb,carry_all hl hb _ hr _ _ _ hA hp⟩
theorem law_goes_g {X:Ctx} {f:Nat} (L:List (TypeId × (TV→Prop))) (hL:∀ x∈L,Opn X.P x.1 x.2) (spec:∀ ys,Fits (L.map (·.2)) ys→Spec X f [] ys (Ret [] (.bo true)))
  (hl:laidOutB X.P=true) (hr:∀ t∈L.map (·.1),X.P.readableRec t=true∧t < X.P.types.size) {H:Type} {enc:TypeId × Value→H} {W:World} (hg:GOk X (OO nn no) W) {base:Nat} {args:Array Value} {ds:List (DataW H)} {p:List MemPlace} {vt:List TypeId} {gs:List (DataW H)}
  (hgs:gs=[]) (hvt:vt=[]) (hv:∀ (j:Nat) t v,(L.map (·.1))[j]? = some t→args[j]? = some v→Value.okWide X.P W .any base t v) (hA:DataW.TrodAll enc X.P W 0 (fun _=>true) true (L.map (·.1)) args.toList ds p)
  (hw:(DataW.weightsEach X.P (L.map (·.1) ++ vt) (ds ++ gs)).all (·≤reachBytes)=true) (hp:∀ x∈p,x.block < W.heap.size) :
  Calls X.P f args W fun e W'=>e = .returned (.bool true)∧Below W.heap.size W W'∧DataW.TrodAll enc X.P W' 0 (fun b=>decide (b < W.heap.size)) true (L.map (·.1)) args.toList ds p:=by
 subst hgs hvt
 simp only [List.append_nil] at hw
 obtain ⟨ys,h1,h2⟩:=open_all L hL args.toList ds p (fun j t v h h'=>hv j t v h (by simpa using h')) hA fun n hn=>by simpa using List.all_eq_true.1 hw n hn
 have h:=law_calls_g hg (spec ys h1) h2
 exact h.mono fun e w' ⟨he,hb⟩=>⟨he,hb,carry_all hl hb _ hr _ _ _ hA hp⟩
end Go.Abs
