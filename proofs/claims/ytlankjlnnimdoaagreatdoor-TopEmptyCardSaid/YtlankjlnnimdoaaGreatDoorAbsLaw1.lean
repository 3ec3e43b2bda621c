/- From the form's reading of an argument to the abstract data; what a law's contract comes to. -/
import Derived.Test.YtlankjlnnimdoaaGreatDoorAbsBase1
import Derived.SizedLaws
import Derived.OpenShut
import Derived.Below
import Derived.Carry
import Derived.WalkKit
import Derived.ProofKit
import Derived.ChangeOld
set_option linter.all false
namespace Go.Abs
open Go.ChangeShapes Go.WideShapes Go.RowKit
section
variable {P:Program} {w:World}
abbrev no:Nat->Prop:=fun _=>False
structure Rd (P:Program) (w:World) (t:Nat) (Φ:List Value->Prop):Prop where
 go:∀ {H:Type} (enc:TypeId×Value->H) (base:Nat) (spare:Nat->Bool) (held:Bool) (fuel:Nat) (cs:List Value) (x:DataW H×List MemPlace),DataW.trod enc P w base spare held fuel t cs=some x ->
  (∀n∈x.1.weights P t,n<=reachBytes)->Φ cs
theorem Rd.mono {t:Nat} {Φ Ψ:List Value->Prop} (h:Rd P w t Φ) (hi:∀cs,Φ cs->Ψ cs):Rd P w t Ψ:=
 ⟨fun enc base spare held fuel cs x hx hw=>hi cs (h.go enc base spare held fuel cs x hx hw)⟩
theorem Rd.and {t:Nat} {Φ Ψ:List Value->Prop} (h:Rd P w t Φ) (h' : Rd P w t Ψ):Rd P w t (fun cs=>Φ cs/\Ψ cs):=
 ⟨fun enc base spare held fuel cs x hx hw=>⟨h.go enc base spare held fuel cs x hx hw,h'.go enc base spare held fuel cs x hx hw⟩⟩
theorem Rd.int {t:Nat} (ht:P.underlying t=some (.int .i64)):Rd P w t (fun cs=>∃n,cs=[.int .i64 n]/\(Lit.int .i64 n).wf=true):=
 ⟨fun _ _ _ _ _ _ _ hx _=>let ⟨n,h1,_,h3⟩:=DataW.trod_int ht hx;⟨n,h1,h3⟩⟩
theorem Rd.len {t:Nat} {fs:Array Field} (ht:P.underlying t=some (.struct fs)):Rd P w t (fun cs=>cs.length=P.cellsOf t):=
 ⟨fun _ _ _ _ _ _ _ hx _=>let ⟨_,_,_,_,h,_⟩:=DataW.trod_struct ht hx;h⟩
theorem zqz {H:Type} {e:Nat} {ds:List (DataW H)} {i:Nat} {d:DataW H} (hd:ds[i]? = some d):∀n∈d.weights P e,n∈DataW.weightsAll P e ds:=by
 induction ds generalizing i with
 |nil=>simp at hd
 |cons x r ih=>
  intro n hn
  simp only[DataW.weightsAll,List.mem_append]
  cases i with
  |zero=>simp at hd;subst hd;exact .inl hn
  |succ i=>exact .inr (ih (by simpa using hd) n hn)
theorem Rd.field {t:Nat} {fs:Array Field} (ht:P.underlying t=some (.struct fs)) {i:Nat} {f:Field} (hf:fs[i]? = some f) {Φ:List Value->Prop} (h:Rd P w f.type Φ):Rd P w t (fun cs=>Φ ((cs.drop f.offset).take (P.cellsOf f.type))):=by
 constructor
 intro H enc base spare held fuel cs x hx hw
 obtain⟨xs,n,_,rfl,_,hlen,hfs⟩:=DataW.trod_struct ht hx
 have h1:=hfs i f hf
 have hi:i<fs.size:=(Array.getElem?_eq_some_iff.1 hf).1
 have h2:xs[i]? = some xs[i]:=List.getElem?_eq_getElem (by omega)
 rw[h2]at h1
 refine h.go enc base spare held n _ _ h1 fun m hm=>hw m ?_
 simp only[DataW.weights,ht]
 refine DataW.weights_mem_each (j:=i) (t:=f.type) (d:=xs[i].1) ?_ ?_ m hm
 ·rw[List.getElem?_map,Array.getElem?_toList,hf];rfl
 ·rw[List.getElem?_map,h2];rfl
theorem zr7 {base n:Nat} {a:Addr} {cs:List Value} (h:w.cells? base a n=some cs):cs.length=n/\∀i,i<n->w.cell? (a.add i)=cs[i]?:=by
 unfold World.cells? at h
 split at h
 ·exact⟨by simpa using mapM_some_length h,fun i hi=>mapM_some_get h i i (by simp[hi])⟩
 ·cases h
theorem Rd.sliceP {t e:Nat} (k:EK) (p:k.T->Prop) (ht:P.underlying t=some (.slice e)) (hc:P.cellsOf e=k.size) (hb:1<=P.bytesOf e) (he:Rd P w e (fun cs=>∃y:k.T,RepL no w (k.enc y) cs/\p y)):Rd P w t (fun cs=>∃l v,cs=[v]/\Rep no w (.sl k l) v/\∀x∈l,p x):=by
 constructor
 intro H enc base spare held fuel cs x hx hw
 rcases DataW.trod_slice ht hx with⟨rfl,_⟩|⟨a,len,cap,elems,rest,n,_,rfl,rfl,_,hl,_,hlen,hel,_,_⟩
 ·exact⟨[],_,rfl,.slnil k none 0,fun x hx=>by cases hx⟩
 have hwt:(elems.length+rest.length)*P.bytesOf e<=reachBytes:=by
  refine hw _ ?_
  simp only[DataW.weights,ht,List.length_map]
  exact List.mem_cons_self
 have hcap:elems.length<=reachBytes:=by
  refine Nat.le_trans ?_ hwt
  refine Nat.le_trans (Nat.le_add_right _ rest.length) ?_
  exact Nat.le_mul_of_pos_right _ hb
 have each:∀i,i<len->∃(y:k.T) (ecs:List Value),p y/\RepL no w (k.enc y) ecs/\ecs.length=k.size/\∀j,j<k.size->w.cell? ((a.add (i*k.size)).add j)=ecs[j]?:=by
  intro i hi
  have h1:=hel i hi
  have h2:elems[i]? = some elems[i]:=List.getElem?_eq_getElem (by omega)
  rw[h2,Option.bind_eq_some_iff]at h1
  obtain⟨ecs,h3,h4⟩:=h1
  obtain⟨y,hy,hpy⟩:=he.go enc base spare held n ecs _ h4 fun m hm=>hw m (by
   simp only[DataW.weights,ht]
   exact List.mem_cons_of_mem _ (List.mem_append_left _ (zqz (i:=i) (d:=elems[i].1) (by rw[List.getElem?_map,h2];rfl) m hm)))
  obtain⟨h5,h6⟩:=zr7 h3
  rw[hc]at h5 h6
  exact⟨y,ecs,hpy,hy,h5,h6⟩
 have all:∀m,m<=len->∃(l:List k.T) (vs:List Value),(∀x∈l,p x)/\l.length=m/\RepL no w (l.flatMap k.enc) vs/\vs.length=m*k.size/\∀j,j<m*k.size->w.cell? (a.add j)=vs[j]?:=by
  intro m
  induction m with
  |zero=>intro _;exact⟨[],[],(fun x hx=>by cases hx),rfl,repL_nil,by simp,fun j hj=>by omega⟩
  |succ m ih=>
   intro hm
   obtain⟨l,vs,hpl,h1,h2,h3,h4⟩:=ih (by omega)
   obtain⟨y,ecs,hpy,h5,h6,h7⟩:=each m (by omega)
   refine⟨l++[y],vs++ecs,(fun x hx=>by
    rcases List.mem_append.1 hx with hx|hx
    ·exact hpl x hx
    ·rw[List.mem_singleton.1 hx];exact hpy),by simp[h1],by rw[List.flatMap_append];simpa using za2 h2 h5,by rw[List.length_append,h3,h6,Nat.succ_mul],fun j hj=>?_⟩
   by_cases hjm:j<m*k.size
   ·rw[h4 j hjm,List.getElem?_append_left (by omega)]
   ·rw[List.getElem?_append_right (by omega),h3,←h7 (j-m*k.size) (by rw[Nat.succ_mul]at hj;omega),Addr.add_add]
    congr 2
    omega
 obtain⟨l,vs,hpl,h1,h2,h3,h4⟩:=all len (Nat.le_refl _)
 cases len with
 |zero=>
  have:l=[]:=List.eq_nil_of_length_eq_zero h1
  subst this
  exact⟨[],_,rfl,.slnil k (some a) cap,hpl⟩
 |succ len=>
  have hpos:=k.pos
  have hn:0<(len+1)*k.size:=Nat.mul_pos (Nat.succ_pos _) hpos
  have hspot:a.spot=none:=by
   have h5:=h4 0 hn
   rw[List.getElem?_eq_getElem (by omega)]at h5
   have:=World.cell?_spot h5
   cases a with|mk b o s=>cases s with
    |none=>rfl
    |some s=>simp[Addr.add]at this
  refine⟨l,_,rfl,?_,hpl⟩
  have key:=Rep.sl (O:=no) (w:=w) k l a cap vs (fun _ h=>h) hspot (by omega) (by unfold zE;unfold reachBytes at hcap;omega) h2.1 h2.2 (fun j v hv=>?_)
  ·rw[h1]at key
   exact key
  ·have hj:j<(len+1)*k.size:=by rw[←h3];exact(List.getElem?_eq_some_iff.1 hv).1
   rw[←hv,←h4 j hj,zgz hspot]
theorem Rd.slice {t e:Nat} (k:EK) (ht:P.underlying t=some (.slice e)) (hc:P.cellsOf e=k.size) (hb:1<=P.bytesOf e) (he:Rd P w e (fun cs=>∃y:k.T,RepL no w (k.enc y) cs)):Rd P w t (fun cs=>∃l v,cs=[v]/\Rep no w (.sl k l) v):=
 (Rd.sliceP k (fun _=>True) ht hc hb (he.mono fun cs ⟨y,hy⟩=>⟨y,hy,trivial⟩)).mono fun cs ⟨l,v,h1,h2,_⟩=>⟨l,v,h1,h2⟩
end
section
variable {X:Ctx} {w:World}
theorem zih (hX:XOk X) {t:Nat} (h:(X.ty t).ok=true):X.P.cellsOf t=(X.ty t).size:=by
 obtain⟨j,z,hj,hs,_⟩:=(hX.ty t h).info
 simp[Program.cellsOf,hj,hs]
theorem zsX (hX:XOk X) {t:Nat} (h:(X.ty t).ok=true):X.P.bytesOf t=(X.ty t).bytes:=by
 obtain⟨j,z,hj,_,hb,_⟩:=(hX.ty t h).info
 simp[Program.bytesOf,hj,hb]
theorem Rd.intX (hX:XOk X) {t:Nat} (hk:(X.ty t).k = .int .i64):Rd X.P w t (fun cs=>∃n,cs=[.int .i64 n]/\(Lit.int .i64 n).wf=true):=Rd.int (ze4 hX hk)
theorem Rd.lenX (hX:XOk X) {t:Nat} {l:List (Nat×Nat)} (hk:(X.ty t).k = .st l):Rd X.P w t (fun cs=>cs.length=(X.ty t).size):=by
 obtain⟨g,hg,_⟩:=zj3 hX hk
 rw[←zih hX (zb4 hX (t:=t) (by rw[hk];simp))]
 exact Rd.len hg
theorem Rd.fieldX (hX:XOk X) {t:Nat} {l:List (Nat×Nat)} (hk:(X.ty t).k = .st l) (i:Nat) {o u:Nat} (hi:zba l i=some (o,u)) (hu:(X.ty u).ok=true) {Φ:List Value->Prop} (h:Rd X.P w u Φ) :
  Rd X.P w t (fun cs=>Φ ((cs.drop o).take (X.ty u).size)):=by
 obtain⟨g,hg,hgf⟩:=zj3 hX hk
 obtain⟨f,hf,rfl,rfl⟩:∃f,g[i]? = some f/\f.offset=o/\f.type=u:=by
  rw[←hgf,zcg,List.getElem?_map,Option.map_eq_some_iff]at hi
  obtain⟨f,h1,h2⟩:=hi
  cases h2
  exact⟨f,by simpa using h1,rfl,rfl⟩
 rw[←zih hX hu]
 exact Rd.field hg hf h
theorem Rd.sliceX (hX:XOk X) {t e:Nat} (k:EK) (hk:(X.ty t).k = .slc e) (he:(X.ty e).ok=true) (hs:(X.ty e).size=k.size) (hb:Nat.ble 1 (X.ty e).bytes=true) (h:Rd X.P w e (fun cs=>∃y:k.T,RepL no w (k.enc y) cs)) :
  Rd X.P w t (fun cs=>∃l v,cs=[v]/\Rep no w (.sl k l) v):=
 Rd.slice k (zaX hX hk) (by rw[zih hX he,hs]) (by rw[zsX hX he];exact Nat.le_of_ble_eq_true hb) h
theorem zl2 (n:Int):Rep no w (DV.int n) (.int .i64 n):=.lit _ rfl
theorem zkm {cs:List Value} {o n:Nat} {v:Value} (h:(cs.drop o).take n=[v]):cs[o]? = some v:=by
 have h1:((cs.drop o).take n)[0]? = some v:=by rw[h];rfl
 rw[List.getElem?_take]at h1
 split at h1
 ·simpa using h1
 ·cases h1
theorem Rd.opX (hX:XOk X) {t a:Nat} (hk:(X.ty t).k = .st [(0,a),(1,a),(2,a),(3,a)]) (hs:(X.ty t).size=4) (ha:(X.ty a).k = .int .i64) (hok:(X.ty a).ok=true):Rd X.P w t (fun cs=>∃y:Op,RepL no w (EK.op.enc y) cs):=by
 have f (i o:Nat) (h:zba [(0,a),(1,a),(2,a),(3,a)] i=some (o,a)):=Rd.fieldX (w:=w) hX hk i h hok (Rd.intX hX ha)
 refine Rd.mono (Rd.and (Rd.lenX hX hk) (Rd.and (f 0 0 rfl) (Rd.and (f 1 1 rfl) (Rd.and (f 2 2 rfl) (f 3 3 rfl))))) ?_
 rintro cs ⟨hl,⟨k,h0,_⟩,⟨x,h1,_⟩,⟨y,h2,_⟩,⟨z,h3,_⟩⟩
 rw[hs]at hl
 match cs,hl with
 |[c0,c1,c2,c3],_=>
  have e0:=zkm h0;have e1:=zkm h1;have e2:=zkm h2;have e3:=zkm h3
  simp at e0 e1 e2 e3
  subst e0 e1 e2 e3
  exact⟨⟨k,x,y,z⟩,repL_cons (zl2 _) (repL_cons (zl2 _) (repL_cons (zl2 _) (repL_cons (zl2 _) repL_nil)))⟩
end
section
variable {X:Ctx} {w:World}
end
end Go.Abs
namespace Go.Abs
open Go.RowKit
theorem zqO {X:Ctx} {f:Nat} {args:List TV} {vs:List Value} {w:World} (hg:GOk X (OO (fun _=>.unused) no) w) (h:Spec X f [] args (Ret [] (.bo true))) (ha:zbn (fun _=>.unused) no w args vs) :
  Calls X.P f vs.toArray w fun e w'=>e = .returned (.bool true)/\Below w.heap.size w w':=by
 refine(h.2 (fun _=>.unused) no w vs ⟨fun b b' k hb=>hb.elim,fun b k hb=>hb.elim,fun k hk=>hk.elim⟩ (fun b x hx=>by cases hx) (fun b hb=>absurd rfl hb) hg ha).mono ?_
 rintro e w' ⟨v,N',H',r,rfl,⟨_,rfl⟩,_,_,_,hr,hw,_⟩
 refine⟨by rw[zI hr],hw.os,hw.tape,hw.output,hw.size,fun k hk=>hw.block k hk ?_⟩
 rintro⟨b,hb⟩
 exact hb
theorem zug {X:Ctx} (hgl:X.gl=[]) {f:Nat} {args:List TV} {vs:List Value} {w:World} (h:Spec X f [] args (Ret [] (.bo true))) (ha:zbn (fun _=>.unused) no w args vs) :
  Calls X.P f vs.toArray w fun e w'=>e = .returned (.bool true)/\Below w.heap.size w w':=by
 refine(h.2 (fun _=>.unused) no w vs ⟨fun b b' k hb=>hb.elim,fun b k hb=>hb.elim,fun k hk=>hk.elim⟩ (fun b x hx=>by cases hx) (fun b hb=>absurd rfl hb) (fun g xs hx=>?_) ha).mono ?_
 ·rw[hgl]at hx
  cases hx
 ·rintro e w' ⟨v,N',H',r,rfl,⟨_,rfl⟩,_,_,_,hr,hw,_⟩
  refine⟨by rw[zI hr],hw.os,hw.tape,hw.output,hw.size,fun k hk=>hw.block k hk ?_⟩
  rintro⟨b,hb⟩
  exact hb
theorem ztW {w:World} {x:DV} {v:Value} (h:Rep no w x v):RepT (fun _=>.unused) no w (.c (.d x)) v:=by
 refine .c _ _ (.d _ _ (h.sub fun k _ ho=>?_))
 rcases ho with⟨b,hb⟩|ho
 ·exact hb.elim
 ·exact ho
theorem zwI {N:zm} {S:Nat->Prop} {w:World}:zbn N S w [] []:=⟨rfl,fun i x v hx=>by simp at hx⟩
theorem zvf {N:zm} {S:Nat->Prop} {w:World} {x:TV} {v:Value} {xs:List TV} {vs:List Value} (h:RepT N S w x v) (hs:zbn N S w xs vs):zbn N S w (x::xs) (v::vs):=by
 refine⟨by simp[hs.1],fun i a b ha hb=>?_⟩
 cases i with
 |zero=>simp at ha hb;subst ha hb;exact h
 |succ i=>exact hs.2 i a b (by simpa using ha) (by simpa using hb)
end Go.Abs
namespace Go.Abs
open Go.ChangeShapes Go.WideShapes Go.RowKit
abbrev nn:zm:=fun _=>.unused
def Opn (P:Program) (t:TypeId) (Ψ:TV->Prop):Prop:=
 ∀(H:Type) (enc:TypeId×Value->H) (W:World) (base:Nat) (v:Value) (d:DataW H) (ps:List MemPlace),Value.okWide P W .any base t v->DataW.Trod enc P W 0 (fun _=>true) true t v d ps->(∀n∈d.weights P t,n<=reachBytes)->∃y,Ψ y/\RepT nn no W y v
def Fits:List (TV->Prop)->List TV->Prop
 |[],[]=>True
 |p::ps,y::ys=>p y/\Fits ps ys
 |_,_=>False
theorem Fits.cons {p:TV->Prop} {ps:List (TV->Prop)} {ys:List TV} (h:Fits (p::ps) ys):∃y r,ys=y::r/\p y/\Fits ps r:=by
 cases ys with
 |nil=>exact h.elim
 |cons y r=>exact⟨y,r,rfl,h.1,h.2⟩
theorem Fits.nil {ys:List TV} (h:Fits [] ys):ys=[]:=by
 cases ys with
 |nil=>rfl
 |cons y r=>exact h.elim
theorem Opn.int {P:Program} {t:Nat} (ht:P.underlying t=some (.int .i64)):Opn P t (fun y=>∃n:Int,y = .c (.d (.int n))/\(Lit.int .i64 n).wf=true):=by
 intro H enc W base v d ps hv hd _
 obtain⟨n,rfl,_,_,hw⟩:=open_int ht hv hd
 exact⟨_,⟨n,rfl,hw⟩,ztW (zl2 _)⟩
theorem Opn.slice {P:Program} {t e:Nat} (k:EK) (ht:P.underlying t=some (.slice e)) (h:∀w,Rd P w t (fun cs=>∃l v,cs=[v]/\Rep no w (.sl k l) v)):Opn P t (fun y=>∃l,y = .c (.d (.sl k l))):=by
 intro H e W base v d ps hv hd hw
 obtain⟨a,len,cap,rfl⟩:=okWide_slice ht hv
 obtain⟨fuel,hf⟩:=hd
 obtain⟨l,v,hc,hr⟩:=(h W).go e 0 _ _ fuel _ _ hf hw
 simp[Value.cells]at hc
 subst hc
 exact⟨_,⟨l,rfl⟩,ztW hr⟩
theorem zrA {P:Program} {H:Type} {enc:TypeId×Value->H} {W:World} {base:Nat}:∀(L:List (TypeId×(TV->Prop))) (hL:∀x∈L,Opn P x.1 x.2) (args:List Value) (ds:List (DataW H)) (p:List MemPlace),
  (∀(j:Nat) t v,(L.map (·.1))[j]? = some t->args[j]? = some v->Value.okWide P W .any base t v)->DataW.TrodAll enc P W 0 (fun _=>true) true (L.map (·.1)) args ds p->(∀n∈DataW.weightsEach P (L.map (·.1)) ds,n<=reachBytes) ->
  ∃ys,Fits (L.map (·.2)) ys/\zbn nn no W ys args:=by
 intro L
 induction L with
 |nil=>
  intro _ args ds p _ hA _
  obtain⟨rfl,rfl,rfl⟩:=trodAll_nil hA
  exact⟨[],trivial,zwI⟩
 |cons x L ih=>
  intro hL args ds p hv hA hw
  obtain⟨v0,vs0,d0,ds0,p0,q0,rfl,rfl,rfl,h0,r0⟩:=trodAll_cons hA
  obtain⟨y,h1,h2⟩:=hL x List.mem_cons_self H enc W base v0 d0 p0 (hv 0 _ _ rfl rfl) h0 fun n hn=>hw n (by
   simp only[List.map_cons,DataW.weightsEach]
   exact List.mem_append_left _ hn)
  obtain⟨ys,h3,h4⟩:=ih (fun x hx=>hL x (List.mem_cons_of_mem _ hx)) vs0 ds0 q0 (fun j t v ht hv'=>hv (j+1) t v (by simpa using ht) (by simpa using hv')) r0 fun n hn=>hw n (by
   simp only[List.map_cons,DataW.weightsEach]
   exact List.mem_append_right _ hn)
  exact⟨y::ys,⟨h1,h3⟩,zvf h2 h4⟩
theorem znX {P:Program} {H:Type} {enc:TypeId×Value->H} {W W' : World} (hl:laidOutB P=true) (hb:Below W.heap.size W W'):∀(ts:List TypeId) (hr:∀t∈ts,P.readableRec t=true/\t<P.types.size) (args:List Value) (ds:List (DataW H)) (p:List MemPlace),
  DataW.TrodAll enc P W 0 (fun _=>true) true ts args ds p->(∀x∈p,x.block<W.heap.size)->DataW.TrodAll enc P W' 0 (fun b=>decide (b<W.heap.size)) true ts args ds p:=by
 intro ts
 induction ts with
 |nil=>
  intro _ args ds p hA _
  obtain⟨rfl,rfl,rfl⟩:=trodAll_nil hA
  exact rfl
 |cons t ts ih=>
  intro hr args ds p hA hp
  obtain⟨v0,vs0,d0,ds0,p0,q0,rfl,rfl,rfl,h0,r0⟩:=trodAll_cons hA
  refine trodAll_cons_mk (Below.trod hl (hr t List.mem_cons_self).1 (hr t List.mem_cons_self).2 h0 hb fun x hx=>hp x (List.mem_append_left _ hx)) (ih (fun t ht=>hr t (List.mem_cons_of_mem _ ht)) _ _ _ r0 fun x hx=>hp x (List.mem_append_right _ hx))
theorem zzz {X:Ctx} (hgl:X.gl=[]) {f:Nat} (L:List (TypeId×(TV->Prop))) (hL:∀x∈L,Opn X.P x.1 x.2) (spec:∀ys,Fits (L.map (·.2)) ys->Spec X f [] ys (Ret [] (.bo true)))
  (hl:laidOutB X.P=true) (hr:∀t∈L.map (·.1),X.P.readableRec t=true/\t<X.P.types.size) {H:Type} {enc:TypeId×Value->H} {W:World} {base:Nat} {args:Array Value} {ds:List (DataW H)} {p:List MemPlace} {vt:List TypeId} {gs:List (DataW H)}
  (hgs:gs=[]) (hvt:vt=[]) (hv:∀(j:Nat) t v,(L.map (·.1))[j]? = some t->args[j]? = some v->Value.okWide X.P W .any base t v) (hA:DataW.TrodAll enc X.P W 0 (fun _=>true) true (L.map (·.1)) args.toList ds p)
  (hw:(DataW.weightsEach X.P (L.map (·.1)++vt) (ds++gs)).all (·<=reachBytes)=true) (hp:∀x∈p,x.block<W.heap.size) :
  Calls X.P f args W fun e W'=>e = .returned (.bool true)/\Below W.heap.size W W'/\DataW.TrodAll enc X.P W' 0 (fun b=>decide (b<W.heap.size)) true (L.map (·.1)) args.toList ds p:=by
 subst hgs hvt
 simp only[List.append_nil]at hw
 obtain⟨ys,h1,h2⟩:=zrA L hL args.toList ds p (fun j t v h h'=>hv j t v h (by simpa using h')) hA fun n hn=>by simpa using List.all_eq_true.1 hw n hn
 have h:=zug hgl (spec ys h1) h2
 exact h.mono fun e w' ⟨he,hb⟩=>⟨he,hb,znX hl hb _ hr _ _ _ hA hp⟩
theorem law_goes_g {X:Ctx} {f:Nat} (L:List (TypeId×(TV->Prop))) (hL:∀x∈L,Opn X.P x.1 x.2) (spec:∀ys,Fits (L.map (·.2)) ys->Spec X f [] ys (Ret [] (.bo true)))
  (hl:laidOutB X.P=true) (hr:∀t∈L.map (·.1),X.P.readableRec t=true/\t<X.P.types.size) {H:Type} {enc:TypeId×Value->H} {W:World} (hg:GOk X (OO nn no) W) {base:Nat} {args:Array Value} {ds:List (DataW H)} {p:List MemPlace} {vt:List TypeId} {gs:List (DataW H)}
  (hgs:gs=[]) (hvt:vt=[]) (hv:∀(j:Nat) t v,(L.map (·.1))[j]? = some t->args[j]? = some v->Value.okWide X.P W .any base t v) (hA:DataW.TrodAll enc X.P W 0 (fun _=>true) true (L.map (·.1)) args.toList ds p)
  (hw:(DataW.weightsEach X.P (L.map (·.1)++vt) (ds++gs)).all (·<=reachBytes)=true) (hp:∀x∈p,x.block<W.heap.size) :
  Calls X.P f args W fun e W'=>e = .returned (.bool true)/\Below W.heap.size W W'/\DataW.TrodAll enc X.P W' 0 (fun b=>decide (b<W.heap.size)) true (L.map (·.1)) args.toList ds p:=by
 subst hgs hvt
 simp only[List.append_nil]at hw
 obtain⟨ys,h1,h2⟩:=zrA L hL args.toList ds p (fun j t v h h'=>hv j t v h (by simpa using h')) hA fun n hn=>by simpa using List.all_eq_true.1 hw n hn
 have h:=zqO hg (spec ys h1) h2
 exact h.mono fun e w' ⟨he,hb⟩=>⟨he,hb,znX hl hb _ hr _ _ _ hA hp⟩
end Go.Abs
