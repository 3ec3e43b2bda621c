/- Walks and plain laws: WWhiteK, WWhiteM, WWhiteN, WWhiteO, WWhiteC, WWhiteD, WWhiteE. -/
import Derived.Test.YtlankjlnnimdoaaGreatDoorPj
import Derived.Test.YtlankjlnnimdoaaGreatDoorPg
set_option linter.all false
namespace Go.Abs
set_option maxRecDepth 8000
abbrev fv (g:Hp) (a f:Int):Int:=zf g (a+1+f)
def InF (g:Hp) (a f:Int):Prop:=headE g a=0/\0<=f/\f<(headH g a).n
def Ref (g:Hp) (v:Int):Prop:=v=0\/headE g v=0
def crN (a:Int):Int:=(a-16) / 8
def Dir (g:Hp) (a:Int):Prop:=g.cards.getD (crN a).toNat false=true
def Hl (t:Thread) (v:Int):Prop:=v=t.r0\/v=t.r1\/v=t.r2\/v=t.r3\/v=t.x\/v=t.y
def opT (t:Thread):Op:=t.ops.getD 0 default
def Sto (t:Thread):Prop:=(opT t).kind=2
def Wt (t:Thread) (a f:Int):Prop:=t.live=true/\t.pc=4/\Sto t/\0<=(opT t).a/\(opT t).a<=3/\t.reg (opT t).a=a/\(opT t).b=f
inductive Prot (g:Hp) (c:Col):Int->Prop
 |base (s f:Int) (h:InF g s f) (hk:atK g c s≠1):Prot g c (fv g s f)
 |step (s f:Int) (h:InF g s f) (hp:Prot g c s):Prot g c (fv g s f)
def zgl (c:Col) (a f:Int):Prop:=(c.at_=0->c.seek<a)/\(c.at_≠0->c.at_<a\/(a=c.at_/\c.field_<=f))
def zwu (g:Hp) (c:Col) (a f:Int):Prop:=(Dir g a/\(c.seek=0->c.card<=crN a)/\(c.seek≠0->c.card<crN a))\/(c.seek≠0/\crN a=c.card/\zgl c a f)
structure HpI (g:Hp) (c:Col):Prop where
 d:∀a f,InF g a f->¬(c.phase=6/\atK g c a=1)->Ref g (fv g a f)
 g6:c.phase=6->∀u,atK g c u≠2
 w6:c.phase=6->∀u,atK g c u=1->c.seek<u
 f6:c.phase=6->∀a f,InF g a f->atK g c a≠1->atK g c (fv g a f)≠1
 m6:c.phase=6->c.met=true->headE g c.seek=0/\Dir g c.seek
 b:1<=c.phase->c.phase<=5->∀a f,InF g a f->atK g c a=3->atK g c (fv g a f)≠1
 l0:1<=c.phase->c.phase<=2->∀u,atK g c u≠3
 kn:1<=c.phase->c.phase<=5->∀u,atK g c u=2->c.over=true\/u∈c.work\/(c.phase=5/\(u=c.at_\/(c.seek≠0/\c.seek<u)))
 wk:1<=c.phase->c.phase<=5->∀u∈c.work,atK g c u=2\/atK g c u=3
 a5:c.phase=5->c.at_=0\/atK g c c.at_=2\/atK g c c.at_=3
 t5:c.phase=5->atK g c c.at_=2->0<=c.field_/\c.field_<(headH g c.at_).n/\∀f,0<=f->f<c.field_->atK g c (fv g c.at_ f)≠1
 e5:c.phase=5->∀a f,InF g a f->atK g c a=0->atK g c (fv g a f)≠1
 z4:c.phase=4->c.major=false/\0<=c.card/\(c.seek≠0->c.card<(g.cards.length:Int))/\0<=c.field_/\(c.at_≠0->c.seek=c.at_)
structure ThI (g:Hp) (c:Col) (t:Thread):Prop where
 d:∀v,Hl t v->Ref g v
 z:t.pc=0->t.x=0/\t.y=0
 s6:c.phase=6->∀v,Hl t v->atK g c v≠1
 s:1<=c.phase->c.phase<=5->t.epoch=c.epoch->Sto t->(2<=t.pc->atK g c t.x≠1)/\(3<=t.pc->atK g c t.y≠1)
 f:2<=c.phase->c.phase<=5->t.epoch=c.epoch->2<=t.stage->Sto t->1<=t.pc->t.pc<=3->InF g (t.reg (opT t).a) (opT t).b->fv g (t.reg (opT t).a) (opT t).b=t.x\/atK g c (fv g (t.reg (opT t).a) (opT t).b)≠1
 a:3<=c.phase->c.phase<=5->t.epoch=c.epoch->t.stage=3->∀v,Hl t v->atK g c v=1->Prot g c v
 r:1<=c.phase->c.phase<=3->t.epoch=c.epoch->(c.phase<=2->t.stage<=c.phase/\t.root=0)/\(t.stage=3->t.root=0)/\(0<t.root->t.pc=0)/\(t.stage≠3->∀r,0<=r->r<t.root->atK g c (t.reg r)≠1)
structure JnI (g:Hp) (c:Col) (ts:List Thread):Prop where
 jw:1<=c.phase->c.phase<=3->c.major=false->∀a f,InF g a f->(headH g a).old=true->atK g c (fv g a f)=1->Dir g a\/∃t∈ts,t.epoch≠c.epoch/\Wt t a f
 j4:c.phase=4->∀a f,InF g a f->(headH g a).old=true->atK g c (fv g a f)=1->zwu g c a f
 j:∀a f,InF g a f->(headH g a).old=true->¬(c.phase=6/\c.major=true/\atK g c a=1)->headE g (fv g a f)=0->(headH g (fv g a f)).old=false ->
  Dir g a\/(∃t∈ts,Wt t a f)\/(c.phase=4/\c.seek≠0/\crN a=c.card/\(c.met=true\/zgl c a f))
structure InW (g:Hp) (c:Col) (ts:List Thread):Prop where
 h:HpI g c
 t:∀t∈ts,t.live=true->ThI g c t
 j:JnI g c ts
theorem ztq (g:Hp) (c:Col) (u:Int):atK g c u=0\/atK g c u=1\/atK g c u=2\/atK g c u=3:=by
 have:=zrB g c u;omega
theorem zil {g:Hp} {c:Col} {u:Int} (h:atK g c u=1) (hm:c.major=false):(headH g u).old=false:=by
 have h0:=zaK (g:=g) (c:=c) (a:=u) (by omega)
 rw[zbC h0]at h
 have:=(zaL.1.1 h).1.1
 rcases this with k|k
 ·exact k
 ·rw[hm]at k;cases k
theorem znG {g:Hp} {c:Col} {u:Int} (h:atK g c u=0) (h0:headE g u=0) (he:0<=c.epoch/\c.epoch<=1048576):(headH g u).old=true/\c.major=false:=by
 rw[zbC h0]at h
 unfold za3 at h
 rw[decide_eq_false (show ¬c.epoch<0 by omega),decide_eq_false (show ¬c.epoch>1048576 by omega)]at h
 cases ho:(headH g u).old with
 |true=>
  cases hm:c.major with
  |false=>exact⟨rfl,rfl⟩
  |true=>
   rw[ho,hm]at h
   exfalso
   revert h
   cases decide ((headH g u).mark<c.epoch)<;>cases (headH g u).done<;>decide
 |false=>
  rw[ho]at h
  exfalso
  revert h
  cases c.major<;>cases decide ((headH g u).mark<c.epoch)<;>cases (headH g u).done<;>decide
theorem Prot.mono {g k:Hp} {c d:Col} (ho:∀s,headE g s=0->headE k s=0) (hk:∀s,headE g s=0->atK k d s=1->atK g c s=1)
  (hf:∀s f,InF g s f->atK k d (fv g s f)=1->f<(headH k s).n/\fv k s f=fv g s f) {u:Int} (h:Prot g c u):atK k d u=1->Prot k d u:=by
 induction h with
 |base s f h hs=>
  intro hu
  obtain⟨h1,h2⟩:=hf s f h hu
  rw[←h2]
  exact .base s f ⟨ho s h.1,h.2.1,h1⟩ fun q=>hs (hk s h.1 q)
 |step s f h hp ih=>
  intro hu
  obtain⟨h1,h2⟩:=hf s f h hu
  rw[←h2]
  by_cases q:atK k d s=1
  ·exact .step s f ⟨ho s h.1,h.2.1,h1⟩ (ih q)
  ·exact .base s f ⟨ho s h.1,h.2.1,h1⟩ q
theorem Prot.none {g:Hp} {c:Col} (h:∀a f,InF g a f->atK g c a≠1->atK g c (fv g a f)≠1) {u:Int} (hp:Prot g c u):atK g c u≠1:=by
 induction hp with
 |base s f hi hs=>exact h s f hi hs
 |step s f hi hp ih=>exact h s f hi ih
structure Mono (g k:Hp) (c d:Col):Prop where
 e:d.epoch=c.epoch
 ph:d.phase=c.phase
 mj:d.major=c.major
 ob:∀u,headE k u=headE g u
 n:∀u,(headH k u).n=(headH g u).n
 old:∀u,(headH k u).old=(headH g u).old
 fld:∀a f,InF g a f->fv k a f=fv g a f
 w:∀u,atK k d u=1->atK g c u=1
theorem Mono.inF {g k:Hp} {c d:Col} (m:Mono g k c d) {a f:Int} (h:InF k a f):InF g a f:=by
 obtain⟨h1,h2,h3⟩:=h
 exact⟨by rw[←m.ob];exact h1,h2,by rw[←m.n];exact h3⟩
theorem Mono.ref {g k:Hp} {c d:Col} (m:Mono g k c d) {v:Int} (h:Ref g v):Ref k v:=h.imp id fun q=>by rw[m.ob];exact q
theorem Mono.nw {g k:Hp} {c d:Col} (m:Mono g k c d) {v:Int} (h:atK g c v≠1):atK k d v≠1:=fun q=>h (m.w v q)
theorem Mono.prot {g k:Hp} {c d:Col} (m:Mono g k c d) {v:Int} (h:Prot g c v) (hw:atK k d v=1):Prot k d v:=
 h.mono (fun s hs=>by rw[m.ob];exact hs) (fun s _ q=>m.w s q) (fun s f hi _=>⟨by rw[m.n];exact hi.2.2,m.fld s f hi⟩) hw
theorem ThI.mono {g k:Hp} {c d:Col} {t:Thread} (m:Mono g k c d) (h:ThI g c t):ThI k d t:=by
 refine⟨fun v hv=>m.ref (h.d v hv),h.z,fun p v hv=>m.nw (h.s6 (m.ph▸p) v hv),fun p1 p2 he hs=>?_,fun p1 p2 he hs ho q1 q2 hi=>?_,fun p1 p2 he hs v hv hw=>?_,fun p1 p2 he=>?_⟩
 ·rw[m.ph]at p1 p2;rw[m.e]at he
  obtain⟨a,b⟩:=h.s p1 p2 he hs
  exact⟨fun q=>m.nw (a q),fun q=>m.nw (b q)⟩
 ·rw[m.ph]at p1 p2;rw[m.e]at he
  have hi':=m.inF hi
  rw[m.fld _ _ hi']
  exact(h.f p1 p2 he hs ho q1 q2 hi').imp id fun q=>m.nw q
 ·rw[m.ph]at p1 p2;rw[m.e]at he
  exact m.prot (h.a p1 p2 he hs v hv (m.w v hw)) hw
 ·rw[m.ph]at p1 p2;rw[m.e]at he
  obtain⟨a,b,c',e'⟩:=h.r p1 p2 he
  exact⟨fun q=>by rw[m.ph]at q ⊢;exact a q,b,c',fun q r r0 r1=>m.nw (e' q r r0 r1)⟩
theorem Marks.mono {g k:Hp} {c d:Col} (h:Marks g k) (s:ColSame c d) (hw:∀u,atK k d u=1->atK g c u=1):Mono g k c d:=
 ⟨s.epoch,s.phase,s.major,h.headE,fun u=>(h.head u).2.2.1,fun u=>(h.head u).2.1,fun a f hi=>by
  have:=h.field hi.1 (f:=1+f) (by have:=hi.2.1;omega) (by have:=hi.2.2;omega)
  show zf k (a+1+f)=zf g (a+1+f)
  rw[show a+1+f=a+(1+f) by omega];exact this,hw⟩
theorem Marks.dir {g k:Hp} (h:Marks g k) {a:Int}:Dir k a↔Dir g a:=by unfold Dir;rw[h.cards]
theorem JnI.mono {g k:Hp} {c d:Col} {ts:List Thread} (m:Mono g k c d) (hd:∀a,headE g a=0->Dir g a->Dir k a) (h6:c.phase=6->∀a,atK g c a=1->atK k d a=1)
  (h4:d.seek=c.seek/\d.card=c.card/\d.at_=c.at_/\d.field_=c.field_/\(c.met=true->d.met=true)) (h:JnI g c ts):JnI k d ts:=by
 obtain⟨e1,e2,e3,e4,e5⟩:=h4
 have np:∀a f,zgl c a f->zgl d a f:=fun a f q=>by unfold zgl at q ⊢;rw[e1,e3,e4];exact q
 refine⟨fun p1 p2 mj a f hi ho hw=>?_,fun p a f hi ho hw=>?_,fun a f hi ho hn hv hvo=>?_⟩
 ·rw[m.ph]at p1 p2;rw[m.mj]at mj
  have hi':=m.inF hi
  rw[m.fld _ _ hi']at hw
  rw[m.old]at ho
  rcases h.jw p1 p2 mj a f hi' ho (m.w _ hw) with q|⟨t,ht,q1,q2⟩
  ·exact .inl (hd a hi'.1 q)
  ·exact .inr ⟨t,ht,by rw[m.e];exact q1,q2⟩
 ·rw[m.ph]at p
  have hi':=m.inF hi
  rw[m.fld _ _ hi']at hw
  rw[m.old]at ho
  rcases h.j4 p a f hi' ho (m.w _ hw) with⟨q1,q2,q3⟩|⟨q1,q2,q3⟩
  ·exact .inl ⟨hd a hi'.1 q1,by rw[e1,e2];exact q2,by rw[e1,e2];exact q3⟩
  ·exact .inr ⟨by rw[e1];exact q1,by rw[e2];exact q2,np a f q3⟩
 ·have hi':=m.inF hi
  rw[m.fld _ _ hi']at hv hvo
  rw[m.old]at ho hvo
  rw[m.ob]at hv
  rcases h.j a f hi' ho (fun q=>hn ⟨by rw[m.ph];exact q.1,by rw[m.mj];exact q.2.1,h6 q.1 a q.2.2⟩) hv hvo with q|q|⟨q1,q2,q3,q4⟩
  ·exact .inl (hd a hi'.1 q)
  ·exact .inr (.inl q)
  ·exact .inr (.inr ⟨by rw[m.ph];exact q1,by rw[e1];exact q2,by rw[e2];exact q3,q4.imp e5 (np a f)⟩)
theorem zcr (g:Hp) (c:Col) (a:Int):(zE g c a).seek=c.seek/\(zE g c a).card=c.card/\(zE g c a).at_=c.at_/\(zE g c a).field_=c.field_/\(zE g c a).met=c.met:=by
 by_cases e:atK g c a=1
 ·rw[zfn e]
  split<;>exact⟨rfl,rfl,rfl,rfl,rfl⟩
 ·rw[zgD e];exact⟨rfl,rfl,rfl,rfl,rfl⟩
theorem zev (g:Hp) (c:Col) (a u:Int):atK (zJ g c a) (zE g c a) u=if u=a/\atK g c a=1 then 2 else atK g c u:=by
 rw[zq6,zts]
theorem zbz (g:Hp) (c:Col) (a:Int):Mono g (zJ g c a) c (zE g c a):=
 (zcw g c a).mono (zfo g c a) fun u h=>by
  rw[zev]at h
  split at h
  ·cases h
  ·exact h
theorem zdX (g:Hp) (c:Col) (a:Int):atK (zJ g c a) (zE g c a) a≠1:=by
 rw[zev]
 split
 ·decide
 ·rename_i h;exact fun q=>h ⟨rfl,q⟩
theorem HpI.shade {g:Hp} {c:Col} (h:HpI g c) (p1:1<=c.phase) (p5:c.phase<=5) (v:Int):HpI (zJ g c v) (zE g c v):=by
 have m:=zbz g c v
 have mk:=zcw g c v
 obtain⟨e1,e2,e3,e4,e5⟩:=zcr g c v
 have k0:∀u q,q≠2->atK (zJ g c v) (zE g c v) u=q->atK g c u=q:=fun u q hq hu=>by
  rw[zev]at hu
  split at hu
  ·exact absurd hu.symm hq
  ·exact hu
 have k2:∀u,atK g c u=2\/atK g c u=3->atK (zJ g c v) (zE g c v) u=atK g c u:=fun u hu=>by
  rw[zev,if_neg]
  rintro⟨rfl,q⟩
  omega
 have hwork:∀u,u∈(zE g c v).work->u∈c.work\/(u=v/\atK g c v=1):=fun u hu=>by
  by_cases e:atK g c v=1
  ·rw[zfn e]at hu
   split at hu
   ·rcases List.mem_append.1 hu with q|q
    ·exact .inl q
    ·exact .inr ⟨List.mem_singleton.1 q,e⟩
   ·exact .inl hu
  ·rw[zgD e]at hu;exact .inl hu
 have hknown:∀u,(c.over=true->(zE g c v).over=true)/\(u∈c.work->u∈(zE g c v).work)/\(u=v->atK g c v=1->(zE g c v).over=true\/u∈(zE g c v).work):=fun u=>by
  by_cases e:atK g c v=1
  ·rw[zfn e]
   split
   ·exact⟨id,fun q=>List.mem_append_left _ q,fun q _=>.inr (List.mem_append_right _ (List.mem_singleton.2 q))⟩
   ·exact⟨fun _=>rfl,id,fun _ _=>.inl rfl⟩
  ·rw[zgD e];exact⟨id,id,fun _ q=>absurd q e⟩
 have n6:(zE g c v).phase≠6:=by rw[m.ph];omega
 refine⟨fun a f hi _=>?_,fun p=>absurd p n6,fun p=>absurd p n6,fun p=>absurd p n6,fun p=>absurd p n6,fun _ _ a f hi hk=>?_,fun q1 q2 u hk=>?_,fun _ _ u hk=>?_,fun _ _ u hu=>?_,fun p=>?_,fun p hk=>?_,fun p a f hi hk=>?_,fun p=>?_⟩
 ·have hi':=m.inF hi
  rw[m.fld _ _ hi']
  exact m.ref (h.d a f hi' (by omega))
 ·have hi':=m.inF hi
  rw[m.fld _ _ hi']
  exact m.nw (h.b p1 p5 a f hi' (k0 a 3 (by decide) hk))
 ·rw[m.ph]at q1 q2
  exact h.l0 q1 q2 u (k0 u 3 (by decide) hk)
 ·rw[m.ph,e1,e3]
  obtain⟨h1,h2,h3⟩:=hknown u
  rw[zev]at hk
  split at hk
  ·rename_i q
   rcases h3 q.1 q.2 with z|z
   ·exact .inl z
   ·exact .inr (.inl z)
  ·rcases h.kn p1 p5 u hk with z|z|z
   ·exact .inl (h1 z)
   ·exact .inr (.inl (h2 z))
   ·exact .inr (.inr z)
 ·rcases hwork u hu with q|⟨rfl,q⟩
  ·have:=h.wk p1 p5 u q
   rw[k2 u this];exact this
  ·rw[zev,if_pos ⟨rfl,q⟩];exact .inl rfl
 ·rw[m.ph]at p
  rw[e3]
  rcases h.a5 p with q|q
  ·exact .inl q
  ·rw[k2 _ q];exact .inr q
 ·rw[m.ph]at p
  rw[e3]at hk ⊢
  rw[e4]
  have hk' : atK g c c.at_=2:=by
   rcases h.a5 p with q|q|q
   ·rw[q,zev]at hk
    split at hk
    ·rename_i z
     have:=zta g c
     rw[←z.1]at z
     omega
    ·rw[q];exact hk
   ·exact q
   ·rw[k2 _ (.inr q),q]at hk;cases hk
  obtain⟨t1,t2,t3⟩:=h.t5 p hk'
  have hob:=zaK (g:=g) (c:=c) (a:=c.at_) (by omega)
  refine⟨t1,by rw[m.n];exact t2,fun f f0 f1=>?_⟩
  rw[m.fld _ _ ⟨hob,f0,by omega⟩]
  exact m.nw (t3 f f0 f1)
 ·rw[m.ph]at p
  have hi':=m.inF hi
  rw[m.fld _ _ hi']
  exact m.nw (h.e5 p a f hi' (k0 a 0 (by decide) hk))
 ·rw[m.ph]at p
  obtain⟨z1,z2,z3,z4,z5⟩:=h.z4 p
  rw[e1,e2,e3,e4,m.mj,mk.cards]
  exact⟨z1,z2,z3,z4,z5⟩
theorem JnI.shade {g:Hp} {c:Col} {ts:List Thread} (h:JnI g c ts) (p5:c.phase<=5) (v:Int):JnI (zJ g c v) (zE g c v) ts:=by
 obtain⟨e1,e2,e3,e4,e5⟩:=zcr g c v
 exact h.mono (zbz g c v) (fun a _ q=>(zcw g c v).dir.2 q) (fun p=>by omega) ⟨e1,e2,e3,e4,fun q=>by rw[e5];exact q⟩
theorem InW.shade {g:Hp} {c:Col} {ts:List Thread} (h:InW g c ts) (p1:1<=c.phase) (p5:c.phase<=5) (v:Int):InW (zJ g c v) (zE g c v) ts:=
 ⟨h.h.shade p1 p5 v,fun t ht hl=>(h.t t ht hl).mono (zbz g c v),h.j.shade p5 v⟩
theorem zhW {α:Type} {l:List α} {i:Nat} (hi:i<l.length) {x t:α} (ht:t∈l):t∈l.set i x\/t=l[i]:=by
 obtain⟨j,hj,e⟩:=List.mem_iff_getElem.1 ht
 by_cases q:j=i
 ·subst q;exact .inr e.symm
 ·refine .inl (List.mem_iff_getElem.2 ⟨j,by rw[List.length_set];exact hj,?_⟩)
  rw[List.getElem_set,if_neg (fun z=>q z.symm)]
  exact e
theorem zh0 {α:Type} {l:List α} {i:Nat} (hi:i<l.length) (x:α):x∈l.set i x:=
 List.mem_iff_getElem.2 ⟨i,by rw[List.length_set];exact hi,by rw[List.getElem_set,if_pos rfl]⟩
theorem InW.set {g:Hp} {c:Col} {ts:List Thread} (h:InW g c ts) {i:Nat} (hi:i<ts.length) {u:Thread} (hu:u.live=true->ThI g c u)
  (hw:∀a f,InF g a f->Wt ts[i] a f->Dir g a\/(Wt u a f/\u.epoch=ts[i].epoch)):InW g c (ts.set i u):=by
 refine⟨h.h,fun t ht hl=>?_,⟨fun p1 p2 mj a f hin ho hk=>?_,h.j.j4,fun a f hin ho hn hv hvo=>?_⟩⟩
 ·rcases zav ht with q|rfl
  ·exact h.t t q hl
  ·exact hu hl
 ·rcases h.j.jw p1 p2 mj a f hin ho hk with q|⟨t,ht,q1,q2⟩
  ·exact .inl q
  ·rcases zhW hi (x:=u) ht with z|rfl
   ·exact .inr ⟨t,z,q1,q2⟩
   ·rcases hw a f hin q2 with z|⟨z1,z2⟩
    ·exact .inl z
    ·exact .inr ⟨u,zh0 hi u,by rw[z2];exact q1,z1⟩
 ·rcases h.j.j a f hin ho hn hv hvo with q|⟨t,ht,q2⟩|q
  ·exact .inl q
  ·rcases zhW hi (x:=u) ht with z|rfl
   ·exact .inr (.inl ⟨t,z,q2⟩)
   ·rcases hw a f hin q2 with z|⟨z1,z2⟩
    ·exact .inl z
    ·exact .inr (.inl ⟨u,zh0 hi u,z1⟩)
  ·exact .inr (.inr q)
theorem zgs (g:Hp) (c:Col):atK g c 0=0:=zta g c
theorem zi2 (t:Thread) (r:Int):Hl t (t.reg r):=by
 unfold Thread.reg Hl
 split
 ·exact .inl rfl
 ·split
  ·exact .inr (.inl rfl)
  ·split
   ·exact .inr (.inr (.inl rfl))
   ·exact .inr (.inr (.inr (.inl rfl)))
structure Gd (g:Hp) (c:Col) (t:Thread) (v:Int):Prop where
 d:Ref g v
 s6:c.phase=6->atK g c v≠1
 a:3<=c.phase->c.phase<=5->t.epoch=c.epoch->t.stage=3->atK g c v=1->Prot g c v
theorem Gd.zero (g:Hp) (c:Col) (t:Thread):Gd g c t 0:=⟨.inl rfl,fun _=>by rw[zgs];decide,fun _ _ _ _ q=>by rw[zgs]at q;cases q⟩
theorem ThI.gd {g:Hp} {c:Col} {t:Thread} (h:ThI g c t) {v:Int} (hv:Hl t v):Gd g c t v:=⟨h.d v hv,fun p=>h.s6 p v hv,fun p1 p2 he hs q=>h.a p1 p2 he hs v hv q⟩
theorem ThI.field {g:Hp} {c:Col} {t:Thread} (hI:HpI g c) (h:ThI g c t) {a f:Int} (ha:Hl t a) (hi:InF g a f):Gd g c t (fv g a f):=by
 refine⟨hI.d a f hi (fun q=>h.s6 q.1 a ha q.2),fun p=>hI.f6 p a f hi (h.s6 p a ha),fun p1 p2 he hs q=>?_⟩
 by_cases k:atK g c a=1
 ·exact .step a f hi (h.a p1 p2 he hs a ha k)
 ·exact .base a f hi k
theorem ThI.fresh {g:Hp} {c:Col} {t u:Thread} (h:ThI g c t) (h0:1<=c.phase->c.phase<=3->t.epoch=c.epoch->t.root=0) (he:u.epoch=t.epoch) (hs:u.stage=t.stage) (hr:u.root=t.root) (hp:u.pc=0) (hx:u.x=0) (hy:u.y=0)
  (hH:∀v,Hl u v->v=0\/Hl t v\/Gd g c t v):ThI g c u:=by
 have hg:∀v,Hl u v->Gd g c t v:=fun v hv=>by
  rcases hH v hv with rfl|q|q
  ·exact .zero g c t
  ·exact h.gd q
  ·exact q
 refine⟨fun v hv=>(hg v hv).d,fun _=>⟨hx,hy⟩,fun p v hv=>(hg v hv).s6 p,fun _ _ _ _=>⟨fun q=>by omega,fun q=>by omega⟩,fun _ _ _ _ _ q _ _=>by omega,fun p1 p2 q1 q2 v hv=>(hg v hv).a p1 p2 (he▸q1) (hs▸q2),fun p1 p2 q=>?_⟩
 rw[he]at q
 obtain⟨r1,r2,r3,r4⟩:=h.r p1 p2 q
 have z:=h0 p1 p2 q
 rw[hs,hr]
 exact⟨r1,r2,fun _=>hp,fun _ r k1 k2=>by omega⟩
theorem zv2 {t:Thread} {r a v:Int} (h:Hl (t.setReg r a) v):v=a\/Hl t v:=by
 unfold Thread.setReg at h
 unfold Hl at h ⊢
 split at h
 ·rcases h with h|h|h|h|h|h
  ·exact .inl h
  all_goals exact .inr (by simp[h])
 ·split at h
  ·rcases h with h|h|h|h|h|h
   ·exact .inr (by simp[h])
   ·exact .inl h
   all_goals exact .inr (by simp[h])
  ·split at h
   ·rcases h with h|h|h|h|h|h
    ·exact .inr (by simp[h])
    ·exact .inr (by simp[h])
    ·exact .inl h
    all_goals exact .inr (by simp[h])
   ·rcases h with h|h|h|h|h|h
    ·exact .inr (by simp[h])
    ·exact .inr (by simp[h])
    ·exact .inr (by simp[h])
    ·exact .inl h
    all_goals exact .inr (by simp[h])
theorem zkr {t:Thread} {v:Int} (h:Hl (ziA t) v):v=0\/Hl t v:=by
 rcases h with h|h|h|h|h|h
 ·exact .inr (.inl h)
 ·exact .inr (.inr (.inl h))
 ·exact .inr (.inr (.inr (.inl h)))
 ·exact .inr (.inr (.inr (.inr (.inl h))))
 ·exact .inl h
 ·exact .inl h
theorem zbH {g k:Hp} {u:Int} (h1:headE k u=headE g u) (h2:headH k u=headH g u) (c:Col):atK k c u=atK g c u:=by unfold atK;rw[h1,h2]
theorem zko {g k:Hp} {a f:Int} (hi:InF g a f) (h:∀f,0<=f->f<ze g.pages a->zf k (a+f)=zf g (a+f)):fv k a f=fv g a f:=by
 have:=(zar hi.1).2.2.1
 have:=h (1+f) (by have:=hi.2.1;omega) (by have:=hi.2.2;omega)
 show zf k (a+1+f)=zf g (a+1+f)
 rw[show a+1+f=a+(1+f) by omega];exact this
theorem zbt {g:Hp} {a:Int} (h:headE g a=0):16<=a:=(zaQ h).2.1
theorem InW.took {g k:Hp} {c:Col} {ts:List Thread} {a0:Int} {x0:Hd} (h:InW g c ts) (t:Took g k a0 x0) (ho:x0.old=false) (hK:1<=c.phase->atK k c a0=1\/atK k c a0=3) (h6:c.phase=6->atK k c a0=3) (h2:1<=c.phase->c.phase<=2->atK k c a0=1):InW k c ts:=by
 have hs:=t.self
 have ha0:a0≠0:=by have:=zbt hs.1;omega
 have ob:∀u,headE g u=0->u≠a0/\headE k u=0:=fun u hu=>by
  have:u≠a0:=fun e=>t.used (e▸hu)
  exact⟨this,by rw[(t.head u this).1];exact hu⟩
 have kk:∀u,u≠a0->atK k c u=atK g c u:=fun u hu=>zbH (t.head u hu).1 (t.head u hu).2 c
 have rf:∀v,Ref g v->v≠a0/\Ref k v:=fun v hv=>by
  rcases hv with rfl|q
  ·exact⟨fun e=>ha0 e.symm,.inl rfl⟩
  ·exact⟨(ob v q).1,.inr (ob v q).2⟩
 have inF:∀a f,InF k a f->(a=a0/\fv k a f=0)\/(a≠a0/\InF g a f/\fv k a f=fv g a f):=fun a f hi=>by
  by_cases e:a=a0
  ·subst e
   refine .inl ⟨rfl,?_⟩
   have:=(zar hs.1).2.2.1
   have:=t.zero (1+f) (by have:=hi.2.1;omega) (by have:=hi.2.2;omega)
   show zf k (a+1+f)=0
   rw[show a+1+f=a+(1+f) by omega];exact this
  ·obtain⟨e1,e2⟩:=t.head a e
   have hi' : InF g a f:=⟨by rw[←e1];exact hi.1,hi.2.1,by rw[←e2];exact hi.2.2⟩
   exact .inr ⟨e,hi',zko hi' (t.word a hi'.1)⟩
 have inF' : ∀a f,InF g a f->InF k a f/\fv k a f=fv g a f:=fun a f hi=>by
  obtain⟨e,_⟩:=ob a hi.1
  obtain⟨e1,e2⟩:=t.head a e
  exact⟨⟨by rw[e1];exact hi.1,hi.2.1,by rw[e2];exact hi.2.2⟩,zko hi (t.word a hi.1)⟩
 have dir:∀a,Dir k a↔Dir g a:=fun a=>by unfold Dir;rw[t.cards]
 have z0:atK k c 0=0:=zgs k c
 have prot:∀v,Prot g c v->atK k c v=1->Prot k c v:=fun v hv hw=>hv.mono (fun s q=>(ob s q).2) (fun s q q2=>by rw[kk s (ob s q).1]at q2;exact q2) (fun s f hi _=>⟨(inF' s f hi).1.2.2,(inF' s f hi).2⟩) hw
 refine⟨⟨fun a f hi hn=>?_,fun p u=>?_,fun p u hk=>?_,fun p a f hi hk=>?_,fun p hm=>?_,fun p1 p5 a f hi hk=>?_,fun p1 p2 u=>?_,fun p1 p5 u hk=>?_,fun p1 p5 u hu=>?_,fun p=>?_,fun p hk=>?_,fun p a f hi hk=>?_,fun p=>?_⟩,fun u hu hl=>?_,⟨fun p1 p2 mj a f hi hold hk=>?_,fun p a f hi hold hk=>?_,fun a f hi hold hn hv hvo=>?_⟩⟩
 ·rcases inF a f hi with⟨_,e⟩|⟨e,hi',e2⟩
  ·rw[e];exact .inl rfl
  ·rw[e2];exact(rf _ (h.h.d a f hi' (by rw[←kk a e];exact hn))).2
 ·by_cases e:u=a0
  ·have:=h6 p;rw[e];omega
  ·rw[kk u e];exact h.h.g6 p u
 ·by_cases e:u=a0
  ·rw[e,h6 p]at hk;cases hk
  ·rw[kk u e]at hk;exact h.h.w6 p u hk
 ·rcases inF a f hi with⟨_,e⟩|⟨e,hi',e2⟩
  ·rw[e,z0];decide
  ·rw[e2]
   rw[kk a e]at hk
   by_cases e3:fv g a f=a0
   ·rw[e3,h6 p];decide
   ·rw[kk _ e3];exact h.h.f6 p a f hi' hk
 ·obtain⟨m1,m2⟩:=h.h.m6 p hm
  exact⟨(ob _ m1).2,(dir _).2 m2⟩
 ·rcases inF a f hi with⟨_,e⟩|⟨e,hi',e2⟩
  ·rw[e,z0];decide
  ·rw[e2,kk _ (rf _ (h.h.d a f hi' (by omega))).1]
   rw[kk a e]at hk
   exact h.h.b p1 p5 a f hi' hk
 ·by_cases e:u=a0
  ·rw[e,h2 p1 p2];decide
  ·rw[kk u e];exact h.h.l0 p1 p2 u
 ·have e:u≠a0:=fun e=>by have:=hK p1;rw[e]at hk;omega
  rw[kk u e]at hk
  exact h.h.kn p1 p5 u hk
 ·have q:=h.h.wk p1 p5 u hu
  rw[kk u (ob u (zaK (by omega:atK g c u≠0))).1];exact q
 ·rcases h.h.a5 p with q|q
  ·exact .inl q
  ·rw[kk _ (ob _ (zaK (by omega:atK g c c.at_≠0))).1];exact .inr q
 ·have e:c.at_≠a0:=fun e=>by have:=hK (by omega);rw[e]at hk;omega
  rw[kk _ e]at hk
  obtain⟨t1,t2,t3⟩:=h.h.t5 p hk
  have hob:=zaK (g:=g) (c:=c) (a:=c.at_) (by omega)
  refine⟨t1,by rw[(t.head _ e).2];exact t2,fun f f0 f1=>?_⟩
  have hi' : InF g c.at_ f:=⟨hob,f0,by omega⟩
  rw[(inF' _ _ hi').2,kk _ (rf _ (h.h.d _ f hi' (by omega))).1]
  exact t3 f f0 f1
 ·rcases inF a f hi with⟨_,e⟩|⟨e,hi',e2⟩
  ·rw[e,z0];decide
  ·rw[e2,kk _ (rf _ (h.h.d a f hi' (by omega))).1]
   rw[kk a e]at hk
   exact h.h.e5 p a f hi' hk
 ·rw[t.cards];exact h.h.z4 p
 ·have T:=h.t u hu hl
  refine⟨fun v hv=>(rf v (T.d v hv)).2,T.z,fun p v hv=>by rw[kk v (rf v (T.d v hv)).1];exact T.s6 p v hv,fun p1 p2 he hst=>?_,fun p1 p2 he hst hs q1 q2 hi=>?_,fun p1 p2 he hst v hv hw=>?_,fun p1 p2 he=>?_⟩
  ·obtain⟨s1,s2⟩:=T.s p1 p2 he hst
   exact⟨fun q=>by rw[kk _ (rf _ (T.d _ (.inr (.inr (.inr (.inr (.inl rfl))))))).1];exact s1 q,fun q=>by rw[kk _ (rf _ (T.d _ (.inr (.inr (.inr (.inr (.inr rfl))))))).1];exact s2 q⟩
  ·have hne:=(rf _ (T.d _ (zi2 u (opT u).a))).1
   rcases inF _ _ hi with⟨e,_⟩|⟨_,hi',e2⟩
   ·exact absurd e hne
   ·rw[e2,kk _ (rf _ (h.h.d _ _ hi' (by omega))).1]
    exact T.f p1 p2 he hst hs q1 q2 hi'
  ·have hne:=(rf v (T.d v hv)).1
   exact prot v (T.a p1 p2 he hst v hv (by rw[←kk v hne];exact hw)) hw
  ·obtain⟨r1,r2,r3,r4⟩:=T.r p1 p2 he
   exact⟨r1,r2,r3,fun q r k1 k2=>by rw[kk _ (rf _ (T.d _ (zi2 u r))).1];exact r4 q r k1 k2⟩
 ·rcases inF a f hi with⟨e,_⟩|⟨e,hi',e2⟩
  ·rw[e,hs.2,ho]at hold;cases hold
  ·rw[e2,kk _ (rf _ (h.h.d a f hi' (by omega))).1]at hk
   rw[(t.head a e).2]at hold
   exact(h.j.jw p1 p2 mj a f hi' hold hk).imp (dir a).2 id
 ·rcases inF a f hi with⟨e,_⟩|⟨e,hi',e2⟩
  ·rw[e,hs.2,ho]at hold;cases hold
  ·rw[e2,kk _ (rf _ (h.h.d a f hi' (by omega))).1]at hk
   rw[(t.head a e).2]at hold
   rcases h.j.j4 p a f hi' hold hk with⟨q1,q2⟩|q
   ·exact .inl ⟨(dir a).2 q1,q2⟩
   ·exact .inr q
 ·rcases inF a f hi with⟨e,_⟩|⟨e,hi',e2⟩
  ·rw[e,hs.2,ho]at hold;cases hold
  ·rw[(t.head a e).2]at hold
   rw[kk a e]at hn
   have hn' : ¬(c.phase=6/\atK g c a=1):=fun q=>hn ⟨q.1,by
    cases hm:c.major with
    |true=>rfl
    |false=>exact absurd (zil q.2 hm) (by rw[hold];decide),q.2⟩
   have hne:=(rf _ (h.h.d a f hi' hn')).1
   rw[e2]at hv hvo
   rw[(t.head _ hne).1]at hv
   rw[(t.head _ hne).2]at hvo
   exact(h.j.j a f hi' hold hn hv hvo).imp (dir a).2 id
theorem InW.objs {g k:Hp} {c:Col} {ts:List Thread} (h:InW g c ts) (o:Objs g k):InW k c ts:=by
 have kk:∀u,atK k c u=atK g c u:=fun u=>zbH (o.headE u) (o.headH u) c
 have m:Mono g k c c:=⟨rfl,rfl,rfl,o.headE,fun u=>by rw[o.headH],fun u=>by rw[o.headH],fun a f hi=>zko hi (o.word a hi.1),fun u q=>by rw[←kk];exact q⟩
 have dir:∀a,Dir k a↔Dir g a:=fun a=>by unfold Dir;rw[o.cards]
 refine⟨⟨fun a f hi hn=>?_,fun p u=>by rw[kk];exact h.h.g6 p u,fun p u hk=>h.h.w6 p u (by rw[←kk];exact hk),fun p a f hi hk=>?_,fun p hm=>?_,fun p1 p5 a f hi hk=>?_,fun p1 p2 u=>by rw[kk];exact h.h.l0 p1 p2 u,fun p1 p5 u hk=>h.h.kn p1 p5 u (by rw[←kk];exact hk),
  fun p1 p5 u hu=>by rw[kk];exact h.h.wk p1 p5 u hu,fun p=>by rw[kk];exact h.h.a5 p,fun p hk=>?_,fun p a f hi hk=>?_,fun p=>by rw[o.cards];exact h.h.z4 p⟩,fun t ht hl=>(h.t t ht hl).mono m,h.j.mono m (fun a _ q=>(dir a).2 q) (fun _ a q=>by rw[kk];exact q) ⟨rfl,rfl,rfl,rfl,id⟩⟩
 ·rw[m.fld _ _ (m.inF hi)];rw[kk]at hn;exact m.ref (h.h.d a f (m.inF hi) hn)
 ·rw[m.fld _ _ (m.inF hi),kk];rw[kk]at hk;exact h.h.f6 p a f (m.inF hi) hk
 ·obtain⟨m1,m2⟩:=h.h.m6 p hm
  exact⟨by rw[o.headE];exact m1,(dir _).2 m2⟩
 ·rw[m.fld _ _ (m.inF hi),kk];rw[kk]at hk;exact h.h.b p1 p5 a f (m.inF hi) hk
 ·rw[kk]at hk
  obtain⟨t1,t2,t3⟩:=h.h.t5 p hk
  have hob:=zaK (g:=g) (c:=c) (a:=c.at_) (by omega)
  exact⟨t1,by rw[m.n];exact t2,fun f f0 f1=>by rw[m.fld _ _ ⟨hob,f0,by omega⟩,kk];exact t3 f f0 f1⟩
 ·rw[m.fld _ _ (m.inF hi),kk];rw[kk]at hk;exact h.h.e5 p a f (m.inF hi) hk
theorem zen {g:Hp} {n:Int} {b:Bool} {a:Int} (hn:0<=n) (hl:n<(g.cards.length:Int)) (ha:16<=a):Dir (cset g n b) a↔if crN a=n then b=true else Dir g a:=by
 have hc:0<=crN a:=by unfold crN;omega
 unfold Dir cset
 show(g.cards.set n.toNat b).getD (crN a).toNat false=true↔_
 rw[List.getD_eq_getElem?_getD,List.getElem?_set]
 by_cases e:crN a=n
 ·rw[if_pos e,if_pos (by rw[e]),if_pos (by omega)];rfl
 ·rw[if_neg e,if_neg (by omega),List.getD_eq_getElem?_getD]
theorem znk {g:Hp} {a:Int} (h:headE g a=0):0<=crN a/\crN a<(g.cards.length:Int):=by
 obtain⟨hm,_⟩:=zG h
 obtain⟨_,_,h3,h4,_⟩:=zm (zF hm)
 obtain⟨_,z1,z2,z3⟩:=zaQ h
 unfold crN
 omega
theorem zi6 (g:Hp) (c:Col) (n:Int) (b:Bool):Mono g (cset g n b) c c:=
 ⟨rfl,rfl,rfl,za4 g n b,fun u=>by rw[zbP],fun u=>by rw[zbP],fun _ _ _=>rfl,fun u q=>by rw[←zbH (za4 g n b u) (zbP g n b u) c];exact q⟩
theorem HpI.cset {g:Hp} {c:Col} (h:HpI g c) (n:Int) (b:Bool) (hd:∀a,headE g a=0->Dir g a->c.phase=6->Dir (cset g n b) a):HpI (cset g n b) c:=by
 have kk:∀u,atK (Abs.cset g n b) c u=atK g c u:=fun u=>zbH (za4 g n b u) (zbP g n b u) c
 have m:=zi6 g c n b
 refine⟨fun a f hi hn=>?_,fun p u=>by rw[kk];exact h.g6 p u,fun p u hk=>h.w6 p u (by rw[←kk];exact hk),fun p a f hi hk=>?_,fun p hm=>?_,fun p1 p5 a f hi hk=>?_,fun p1 p2 u=>by rw[kk];exact h.l0 p1 p2 u,fun p1 p5 u hk=>h.kn p1 p5 u (by rw[←kk];exact hk),
  fun p1 p5 u hu=>by rw[kk];exact h.wk p1 p5 u hu,fun p=>by rw[kk];exact h.a5 p,fun p hk=>?_,fun p a f hi hk=>?_,fun p=>by rw[zpQ];exact h.z4 p⟩
 ·rw[kk]at hn;exact m.ref (h.d a f (m.inF hi) hn)
 ·have:=h.f6 p a f (m.inF hi);rw[kk]at hk;rw[kk];exact this hk
 ·obtain⟨m1,m2⟩:=h.m6 p hm
  exact⟨by rw[za4];exact m1,hd _ m1 m2 p⟩
 ·have:=h.b p1 p5 a f (m.inF hi);rw[kk]at hk;rw[kk];exact this hk
 ·rw[kk]at hk
  obtain⟨t1,t2,t3⟩:=h.t5 p hk
  exact⟨t1,by rw[m.n];exact t2,fun f f0 f1=>by rw[kk];exact t3 f f0 f1⟩
 ·have:=h.e5 p a f (m.inF hi);rw[kk]at hk;rw[kk];exact this hk
theorem InW.dirty {g:Hp} {c:Col} {ts:List Thread} (h:InW g c ts) {n:Int} (hn:0<=n) (hl:n<(g.cards.length:Int)):InW (cset g n true) c ts:=by
 have hd:∀a,headE g a=0->Dir g a->Dir (cset g n true) a:=fun a ha q=>by
  rw[zen hn hl (zbt ha)]
  split
  ·rfl
  ·exact q
 have kk:∀u,atK (cset g n true) c u=atK g c u:=fun u=>zbH (za4 g n true u) (zbP g n true u) c
 exact⟨h.h.cset n true fun a ha q _=>hd a ha q,fun t ht hl'=>(h.t t ht hl').mono (zi6 g c n true),h.j.mono (zi6 g c n true) hd (fun _ a q=>by rw[kk];exact q) ⟨rfl,rfl,rfl,rfl,id⟩⟩
structure MuC (g:Hp) (c:Col) (ts:List Thread) (i:Nat) (t:Thread):Prop where
 h:InW g c ts
 hi:i<ts.length
 ht:ts[i]=t
 l:t.live=true
 m:t.mayT
 r:1<=c.phase->c.phase<=3->t.epoch=c.epoch->t.root=0
theorem MuC.th {g:Hp} {c:Col} {ts:List Thread} {i:Nat} {t:Thread} (x:MuC g c ts i t):ThI g c t:=x.h.t t (x.ht▸List.getElem_mem x.hi) x.l
theorem MuC.finish {g:Hp} {c:Col} {ts:List Thread} {i:Nat} {t:Thread} (x:MuC g c ts i t) {u:Thread} (he:u.epoch=t.epoch) (hs:u.stage=t.stage) (hr:u.root=t.root) (hp:u.pc=0) (hx:u.x=0) (hy:u.y=0)
  (hH:∀v,Hl u v->v=0\/Hl t v\/Gd g c t v) (hn:∀a f,InF g a f->Wt t a f->Dir g a):InW g c (ts.set i u):=
 x.h.set x.hi (fun _=>x.th.fresh x.r he hs hr hp hx hy hH) fun a f hi hw=>.inl (hn a f hi (x.ht▸hw))
abbrev muZ (g:Hp) (c:Col) (t:Thread):Mu:=⟨g,c,t,Res.zero,false⟩
theorem MuC.end_ {g:Hp} {c:Col} {ts:List Thread} {i:Nat} {t:Thread} (x:MuC g c ts i t) (e v:Int) (hn:¬(t.pc=4/\Sto t)):InW (endM (muZ g c t) e v).h (endM (muZ g c t) e v).c (ts.set i (endM (muZ g c t) e v).t):=
 x.finish (u:=ziA t) rfl rfl rfl rfl rfl rfl (fun v hv=>(zkr hv).imp id .inl) fun a f _ hw=>absurd ⟨hw.2.1,hw.2.2.1⟩ hn
theorem MuC.setEnd {g:Hp} {c:Col} {ts:List Thread} {i:Nat} {t:Thread} (x:MuC g c ts i t) (r a e v:Int) (ha:Gd g c t a) (hn:¬(t.pc=4/\Sto t)) :
  InW (endM (zca (muZ g c t) r a) e v).h (endM (zca (muZ g c t) r a) e v).c (ts.set i (endM (zca (muZ g c t) r a) e v).t):=by
 unfold zca
 split
 ·obtain⟨_,_,e3,e4,e5,e6,_⟩:=zgx t r a
  refine x.finish (u:=ziA (t.setReg r a)) e6 e4 e5 rfl rfl rfl (fun v hv=>?_) fun a f _ hw=>absurd ⟨hw.2.1,hw.2.2.1⟩ hn
  rcases zkr hv with q|q
  ·exact .inl q
  ·rcases zv2 q with q|q
   ·exact .inr (.inr (q▸ha))
   ·exact .inr (.inl q)
 ·exact x.end_ e v hn
theorem MuC.shade {g:Hp} {c:Col} {ts:List Thread} {i:Nat} {t:Thread} (x:MuC g c ts i t) (a:Int) (hp:(t.pc=1/\a=t.x)\/(t.pc=2/\a=t.y)) :
  InW (zb3 (muZ g c t) a).h (zb3 (muZ g c t) a).c (ts.set i (zb3 (muZ g c t) a).t):=by
 show InW (if zdZ c t=true then zJ g c a else g) (if zdZ c t=true then zE g c a else c) (ts.set i {t with pc:=t.pc+1})
 by_cases ha:zdZ c t=true
 ·rw[if_pos ha,if_pos ha]
  obtain⟨e,p1,p5⟩:t.epoch=c.epoch/\1<=c.phase/\c.phase<=5:=of_decide_eq_true ha
  have m:=zbz g c a
  have T:=x.th.mono m
  have hr:1<=(zE g c a).phase->(zE g c a).phase<=3->t.epoch=(zE g c a).epoch->t.root=0:=by rw[m.ph,m.e];exact x.r
  refine(x.h.shade p1 p5 a).set x.hi (fun _=>⟨T.d,fun q=>by have:t.pc+1=0:=q;omega,T.s6,fun q1 q2 he hs=>⟨fun _=>?_,fun q=>?_⟩,fun q1 q2 he hst hs k1 k2 hi=>?_,T.a,fun q1 q2 he=>?_⟩) fun b f _ hw=>?_
  ·rcases hp with⟨k,e⟩|⟨k,e⟩
   ·rw[←e];exact zdX g c a
   ·exact(T.s q1 q2 he hs).1 (by omega)
  ·have q:3<=t.pc+1:=q
   rcases hp with⟨k,e⟩|⟨k,e⟩
   ·omega
   ·rw[←e];exact zdX g c a
  ·have k2:t.pc+1<=3:=k2
   exact T.f q1 q2 he hst hs (by omega) (by omega) hi
  ·obtain⟨r1,r2,r3,r4⟩:=T.r q1 q2 he
   have z:=hr q1 q2 he
   exact⟨r1,r2,fun q=>by have:0<t.root:=q;omega,fun _ r k1 k2=>by have:r<t.root:=k2;omega⟩
  ·rw[x.ht]at hw
   have:=hw.2.1
   omega
 ·rw[if_neg ha,if_neg ha]
  have T:=x.th
  have na:∀ {P:Prop},1<=c.phase->c.phase<=5->t.epoch=c.epoch->P:=fun p1 p5 e=>absurd (decide_eq_true ⟨e,p1,p5⟩) ha
  refine x.h.set x.hi (fun _=>⟨T.d,fun q=>by have:t.pc+1=0:=q;omega,T.s6,fun q1 q2 he _=>na q1 q2 he,fun q1 q2 he _ _ _ _ _=>na (by omega) q2 he,T.a,fun q1 q2 he=>?_⟩) fun b f _ hw=>?_
  ·exact na q1 (by omega) he
  ·rw[x.ht]at hw
   have:=hw.2.1
   omega
theorem zkm {g:Hp} {c:Col} {t:Thread} {r f:Int} (h:zaT (muZ g c t) r f=0):InF g (t.reg r) f/\zcF (muZ g c t) r f=t.reg r+1+f/\zcZ (muZ g c t) r f=t.reg r/\0<=r/\r<=3:=by
 obtain⟨h1,h2,h3,h4,h5,h6,h7⟩:=zgc h
 rw[h5]at h1 h3 h4
 exact⟨⟨h1,h2,h3⟩,h4,h5,h6,h7⟩
theorem zwW {g:Hp} {c:Col} {t:Thread} {r f:Int} (h:InF g (t.reg r) f) (h1:0<=r) (h2:r<=3):zaT (muZ g c t) r f=0:=by
 have e1:zdl g t r=0:=by unfold zdl;rw[if_pos ⟨h1,h2⟩,if_pos h.1]
 have e2:zd8 g t r=(headH g (t.reg r)).n:=by unfold zd8;rw[if_pos ⟨h1,h2⟩,if_pos h.1]
 unfold zaT
 rw[if_neg (fun q=>q e1),if_neg]
 show ¬(f<0\/zd8 g t r<=f)
 rw[e2]
 have:=h.2
 omega
theorem zv0 {g:Hp} {a f v:Int} (h:InF g a f) {b q:Int} (hb:InF g b q):fv (zdu g (a+1+f) v) b q=if b=a/\q=f then v else fv g b q:=by
 have z:=zbt hb.1
 show zf (zdu g (a+1+f) v) (b+1+q)=_
 rw[zlt h.1 h.2 (by have:=hb.2.1;omega)]
 by_cases e:b=a/\q=f
 ·rw[if_pos e,if_pos (by omega)]
 ·rw[if_neg e,if_neg]
  intro k
  by_cases e2:b=a
  ·omega
  ·have n1:=(zar h.1).2.2.1
   have n2:=(zar hb.1).2.2.1
   obtain⟨_,h1,h2⟩:=h
   obtain⟨_,b1,b2⟩:=hb
   exact zpA (zG (by assumption)).2.1 (zG (by assumption)).2.1 e2 (f:=1+q) ⟨by omega,by omega⟩ ⟨by omega,by omega⟩
theorem MuC.write {g:Hp} {c:Col} {ts:List Thread} {i:Nat} {t:Thread} (x:MuC g c ts i t) (hp:t.pc=3) (hs:Sto t) (ha:AnsT c t) (he:zaT (muZ g c t) (opT t).a (opT t).b=0) (hop:0<t.ops.length) :
  InW (zdu g (zcF (muZ g c t) (opT t).a (opT t).b) t.y) c (ts.set i {t with pc:=4}):=by
 obtain⟨hi,ew,_,r0,r3⟩:=zkm he
 rw[ew]
 have T:=x.th
 have TF:=T.f
 have hy:Hl t t.y:=.inr (.inr (.inr (.inr (.inr rfl))))
 obtain⟨_,hE,hH⟩:=zf7 (v:=t.y) hi.1 hi.2
 have wf:∀ {b q},InF g b q->fv (zdu g (t.reg (opT t).a+1+(opT t).b) t.y) b q=if b=t.reg (opT t).a/\q=(opT t).b then t.y else fv g b q:=fun hb=>zv0 hi hb
 have wu:Wt {t with pc:=4} (t.reg (opT t).a) (opT t).b:=⟨x.l,rfl,hs,r0,r3,rfl,rfl⟩
 generalize hk:zdu g (t.reg (opT t).a+1+(opT t).b) t.y=k at *
 have kc:k.cards=g.cards:=by rw[←hk]
 generalize t.reg (opT t).a=a at *
 generalize hf:(opT t).b=f at *
 have kk:∀u,atK k c u=atK g c u:=fun u=>zbH (hE u) (hH u) c
 have iF:∀ {b q},InF k b q->InF g b q:=fun hb=>⟨by rw[←hE];exact hb.1,hb.2.1,by rw[←hH];exact hb.2.2⟩
 have iF' : ∀ {b q},InF g b q->InF k b q:=fun hb=>⟨by rw[hE];exact hb.1,hb.2.1,by rw[hH];exact hb.2.2⟩
 have rf:∀ {v},Ref g v->Ref k v:=fun hv=>hv.imp id fun q=>by rw[hE];exact q
 have dir:∀b,Dir k b↔Dir g b:=fun b=>by unfold Dir;rw[kc]
 have ep:2<=c.phase->t.epoch=c.epoch:=(ha x.l).1
 have ny:2<=c.phase->c.phase<=6->atK g c t.y≠1:=fun p1 p6=>by
  by_cases p:c.phase=6
  ·exact T.s6 p _ hy
  ·exact(T.s (by omega) (by omega) (ep p1) hs).2 (by omega)
 have no:3<=c.phase->c.phase<=5->atK g c (fv g a f)≠1:=fun p1 p5=>by
  have st:2<=t.stage:=by
   by_cases p:c.phase=3
   ·exact(ha x.l).2.1 p
   ·have:=(ha x.l).2.2 (by omega);omega
  rcases TF (by omega) p5 (ep (by omega)) st hs (by omega) (by omega) hi with q|q
  ·rw[q]
   exact(T.s (by omega) p5 (ep (by omega)) hs).1 (by omega)
  ·exact q
 have prot:3<=c.phase->c.phase<=5->∀v,Prot g c v->atK k c v=1->Prot k c v:=fun p1 p5 v hv hw=>hv.mono (fun s q=>by rw[hE];exact q) (fun s _ q=>by rw[←kk];exact q) (fun s q hq hw=>⟨(iF' hq).2.2,by
  rw[wf hq,if_neg]
  rintro⟨rfl,rfl⟩
  rw[kk]at hw
  exact no p1 p5 hw⟩) hw
 have thr:∀t',ThI g c t'->ThI k c t':=fun t' T'=>by
  refine⟨fun v hv=>rf (T'.d v hv),T'.z,fun p v hv=>by rw[kk];exact T'.s6 p v hv,fun p1 p2 he hst=>by rw[kk,kk];exact T'.s p1 p2 he hst,fun p1 p2 he hst hs' q1 q2 hq=>?_,fun p1 p2 he hst v hv hw=>prot p1 p2 v (T'.a p1 p2 he hst v hv (by rw[←kk];exact hw)) hw,fun p1 p2 he=>?_⟩
  ·rw[wf (iF hq),kk]
   split
   ·exact .inr (ny p1 (by omega))
   ·exact T'.f p1 p2 he hst hs' q1 q2 (iF hq)
  ·obtain⟨r1,r2,r3,r4⟩:=T'.r p1 p2 he
   exact⟨r1,r2,r3,fun q r k1 k2=>by rw[kk];exact r4 q r k1 k2⟩
 have TU:ThI k c {t with pc:=4}:=by
  have T':=thr t T
  refine⟨T'.d,fun q=>absurd (show(4:Int)=0 from q) (by decide),T'.s6,fun p1 p2 he hst=>?_,fun _ _ _ _ _ _ q _=>by have:(4:Int)<=3:=q;omega,T'.a,fun p1 p2 he=>?_⟩
  ·obtain⟨s1,s2⟩:=T'.s p1 p2 he hst
   exact⟨fun _=>s1 (by omega),fun _=>s2 (by omega)⟩
  ·obtain⟨r1,r2,r3,r4⟩:=T'.r p1 p2 he
   have z:=x.r p1 p2 he
   exact⟨r1,r2,fun q=>by have:0<t.root:=q;omega,r4⟩
 have hH':=x.h.h
 have hJ:=x.h.j
 have wit:∀ {b q} {t'},t'∈ts->Wt t' b q->t'∈ts.set i {t with pc:=4}:=fun ht' hw=>by
  rcases zhW x.hi (x:={t with pc:=4}) ht' with z|rfl
  ·exact z
  ·rw[x.ht]at hw
   have:=hw.2.1
   omega
 have mu:({t with pc:=4}:Thread)∈ts.set i {t with pc:=4}:=zh0 x.hi _
 refine⟨⟨fun b q hq hn=>?_,fun p u=>by rw[kk];exact hH'.g6 p u,fun p u hu=>hH'.w6 p u (by rw[←kk];exact hu),fun p b q hq hb=>?_,fun p hm=>?_,fun p1 p5 b q hq hb=>?_,fun p1 p2 u=>by rw[kk];exact hH'.l0 p1 p2 u,fun p1 p5 u hu=>hH'.kn p1 p5 u (by rw[←kk];exact hu),
  fun p1 p5 u hu=>by rw[kk];exact hH'.wk p1 p5 u hu,fun p=>by rw[kk];exact hH'.a5 p,fun p hu=>?_,fun p b q hq hb=>?_,fun p=>by rw[kc];exact hH'.z4 p⟩,fun t' ht' hl=>?_,⟨fun p1 p2 mj b q hq hold hb=>?_,fun p b q hq hold hb=>?_,fun b q hq hold hn hv hvo=>?_⟩⟩
 ·rw[wf (iF hq)]
  split
  ·exact rf (T.d _ hy)
  ·rw[kk]at hn;exact rf (hH'.d b q (iF hq) hn)
 ·rw[wf (iF hq),kk]
  split
  ·exact ny (by omega) (by omega)
  ·rw[kk]at hb;exact hH'.f6 p b q (iF hq) hb
 ·obtain⟨m1,m2⟩:=hH'.m6 p hm
  exact⟨by rw[hE];exact m1,(dir _).2 m2⟩
 ·rw[kk]at hb
  rw[wf (iF hq),kk]
  split
  ·have:¬c.phase<=2:=fun p2=>hH'.l0 p1 p2 b hb
   exact ny (by omega) (by omega)
  ·exact hH'.b p1 p5 b q (iF hq) hb
 ·rw[kk]at hu
  obtain⟨t1,t2,t3⟩:=hH'.t5 p hu
  have hob:=zaK (g:=g) (c:=c) (a:=c.at_) (by omega)
  refine⟨t1,by rw[hH];exact t2,fun q f0 f1=>?_⟩
  rw[wf ⟨hob,f0,by omega⟩,kk]
  split
  ·exact ny (by omega) (by omega)
  ·exact t3 q f0 f1
 ·rw[kk]at hb
  rw[wf (iF hq),kk]
  split
  ·exact ny (by omega) (by omega)
  ·exact hH'.e5 p b q (iF hq) hb
 ·rcases zav ht' with z|rfl
  ·exact thr t' (x.h.t t' z hl)
  ·exact TU
 ·rw[hH]at hold
  rw[wf (iF hq),kk]at hb
  by_cases e:b=a/\q=f
  ·rw[if_pos e]at hb
   refine .inr ⟨_,mu,fun he=>?_,by rw[e.1,e.2];exact wu⟩
   have he:t.epoch=c.epoch:=he
   exact(T.s p1 (by omega) he hs).2 (by omega) hb
  ·rw[if_neg e]at hb
   rcases hJ.jw p1 p2 mj b q (iF hq) hold hb with z|⟨t',h1,h2,h3⟩
   ·exact .inl ((dir b).2 z)
   ·exact .inr ⟨t',wit h1 h3,h2,h3⟩
 ·rw[hH]at hold
  rw[wf (iF hq),kk]at hb
  by_cases e:b=a/\q=f
  ·rw[if_pos e]at hb
   exact absurd hb (ny (by omega) (by omega))
  ·rw[if_neg e]at hb
   rcases hJ.j4 p b q (iF hq) hold hb with⟨z1,z2⟩|z
   ·exact .inl ⟨(dir b).2 z1,z2⟩
   ·exact .inr z
 ·rw[hH]at hold
  rw[kk]at hn
  by_cases e:b=a/\q=f
  ·exact .inr (.inl ⟨_,mu,by rw[e.1,e.2];exact wu⟩)
  ·rw[wf (iF hq),if_neg e]at hv hvo
   rw[hE]at hv
   rw[hH]at hvo
   rcases hJ.j b q (iF hq) hold hn hv hvo with z|⟨t',h1,h2⟩|z
   ·exact .inl ((dir b).2 z)
   ·exact .inr (.inl ⟨t',wit h1 h2,h2⟩)
   ·exact .inr (.inr z)
theorem zyf {k:Hp} {c:Col} {t:Thread} {a n:Int} (hm:za1 c=true) (h:headE k a=0) (hh:headH k a=zau (muZ k c t) n) :
  (1<=c.phase->atK k c a=1\/atK k c a=3)/\(t.epoch=c.epoch->t.stage=3->c.phase≠0->atK k c a=3)/\(1<=c.phase->¬(t.epoch=c.epoch/\t.stage=3)->atK k c a=1):=by
 obtain⟨m1,m2,m3,m4,m5,_⟩:=zdy hm
 rw[zbC h,hh]
 have hb:zlF c t=true->za3 c (zau (muZ k c t) n)=3:=fun q=>by
  have e:zau (muZ k c t) n=⟨true,false,true,n,c.epoch,c.epoch⟩:=by unfold zau;rw[if_pos q]
  rw[e,zaL.2.2]
  exact⟨⟨.inl rfl,m3,m5⟩,Int.le_refl _,rfl⟩
 have hw:zlF c t≠true->1<=c.phase->za3 c (zau (muZ k c t) n)=1:=fun q p=>by
  have e:zau (muZ k c t) n=⟨true,false,false,n,0,0⟩:=by unfold zau;rw[if_neg q]
  rw[e,zaL.1]
  exact⟨⟨.inl rfl,m3,m5⟩,by have:=m4 (by omega);show(0:Int)<c.epoch;omega⟩
 refine⟨fun p=>?_,fun q1 q2 q3=>hb (decide_eq_true ⟨q1,q2,q3⟩),fun p q=>hw (fun z=>?_) p⟩
 ·by_cases q:zlF c t=true
  ·exact .inr (hb q)
  ·exact .inl (hw q p)
 ·obtain⟨z1,z2,_⟩:=of_decide_eq_true z
  exact q ⟨z1,z2⟩
theorem MuC.create {g:Hp} {c:Col} {ts:List Thread} {i:Nat} {t:Thread} (x:MuC g c ts i t) {cs:List Lists} (hw:zt g (t.cache::cs)=true) (hc:za1 c=true) (ha:AnsT c t) (hp:t.pc=0) (hk:(opT t).kind=0) (n:Int) (he:zaC g t.cache (zau (muZ g c t) n)=0) :
  InW (zeL g t.cache (zau (muZ g c t) n)) c (ts.set i {t with cache:=takeC g t.cache (zau (muZ g c t) n),x:=takeA g t.cache (zau (muZ g c t) n),pc:=1}):=by
 have tk:=(zgU hw he).2
 generalize hK:zeL g t.cache (zau (muZ g c t) n)=k at *
 generalize takeA g t.cache (zau (muZ g c t) n)=a0 at *
 generalize takeC g t.cache (zau (muZ g c t) n)=C at *
 obtain⟨n1,n2,n3⟩:=zyf (t:=t) (n:=n) hc tk.self.1 tk.self.2
 have hold:(zau (muZ g c t) n).old=false:=by unfold zau;split<;>rfl
 have T0:=x.th
 have k3:4<=c.phase->atK k c a0=3:=fun p=>n2 ((ha x.l).1 (by omega)) ((ha x.l).2.2 p) (by omega)
 have h':=x.h.took tk hold n1 (fun p=>k3 (by omega)) fun p1 p2=>n3 p1 fun q=>by
  have:=((T0.r p1 (by omega) q.1).1 p2).1
  omega
 have T:ThI k c t:=h'.t t (x.ht▸List.getElem_mem x.hi) x.l
 have hl:∀v,Hl {t with cache:=C,x:=a0,pc:=1} v->v=a0\/Hl t v:=fun v hv=>by
  rcases hv with q|q|q|q|q|q
  ·exact .inr (.inl q)
  ·exact .inr (.inr (.inl q))
  ·exact .inr (.inr (.inr (.inl q)))
  ·exact .inr (.inr (.inr (.inr (.inl q))))
  ·exact .inl q
  ·exact .inr (.inr (.inr (.inr (.inr (.inr q)))))
 have nst:∀ {P:Prop},Sto {t with cache:=C,x:=a0,pc:=1}->P:=fun q=>by
  have:(opT t).kind=2:=q
  omega
 refine h'.set x.hi (fun _=>⟨fun v hv=>?_,fun q=>absurd (show(1:Int)=0 from q) (by decide),fun p v hv=>?_,fun _ _ _ q=>nst q,fun _ _ _ _ q=>nst q,fun p1 p2 he hs v hv hw=>?_,fun p1 p2 he=>?_⟩) fun b f _ hw=>?_
 ·rcases hl v hv with rfl|q
  ·exact .inr tk.self.1
  ·exact T.d v q
 ·rcases hl v hv with rfl|q
  ·rw[k3 (by omega)];decide
  ·exact T.s6 p v q
 ·rcases hl v hv with rfl|q
  ·rw[n2 he hs (by omega)]at hw;cases hw
  ·exact T.a p1 p2 he hs v q hw
 ·obtain⟨r1,r2,r3,r4⟩:=T.r p1 p2 he
  have z:=x.r p1 p2 he
  exact⟨r1,r2,fun q=>by have:0<t.root:=q;omega,fun _ r k1 k2=>by have:r<t.root:=k2;omega⟩
 ·rw[x.ht]at hw
  have:=hw.2.1
  omega
theorem MuC.step {g:Hp} {c:Col} {ts:List Thread} {i:Nat} {t:Thread} (x:MuC g c ts i t) {cs:List Lists} (hw:zt g (t.cache::cs)=true) (hc:za1 c=true) (ha:AnsT c t) (hop:0<t.ops.length) :
  InW (zdA (muZ g c t)).h (zdA (muZ g c t)).c (ts.set i (zdA (muZ g c t)).t):=by
 obtain⟨a1,a2,a3,a4,a5,a6,a7,a8⟩:=x.m
 have T:=x.th
 have hm:=ze5 hw
 have nk:∀k:Int,k≠2->(opT t).kind=k->¬(t.pc=4/\Sto t):=fun k hk e q=>by
  have:(opT t).kind=2:=q.2
  omega
 unfold zdA
 split
 ·rename_i hk
  have hk:(opT t).kind=0:=hk
  have n0:=nk 0 (by decide) hk
  unfold createM
  split
  ·exact x.setEnd _ _ _ _ (T.gd (.inr (.inr (.inr (.inr (.inl rfl)))))) n0
  ·rename_i hp
   have hp:¬0<t.pc:=hp
   split
   ·exact x.end_ _ _ n0
   ·split
    ·exact x.end_ _ _ n0
    ·rename_i he
     exact x.create hw hc ha (by omega) hk _ (Classical.not_not.1 he)
 ·split
  ·rename_i hk
   have n0:=nk 1 (by decide) hk
   unfold loadM
   split
   ·exact x.end_ _ _ n0
   ·split
    ·exact x.end_ _ _ n0
    ·rename_i he
     obtain⟨hi,ew,_⟩:=zkm (Classical.not_not.1 he)
     refine x.setEnd _ _ _ _ ?_ n0
     show Gd g c t (zf g (zcF (muZ g c t) _ _))
     rw[ew]
     exact T.field x.h.h (zi2 _ _) hi
  ·split
   ·rename_i hk
    have hk:Sto t:=hk
    unfold storeM
    split
    ·rename_i hp
     have hp:t.pc=0:=hp
     have n0:¬(t.pc=4/\Sto t):=fun q=>by omega
     unfold zgm
     split
     ·exact x.end_ _ _ n0
     ·rename_i he
      have he:=Classical.not_not.1 he
      have he:zaT (muZ g c t) (opT t).a (opT t).b=0:=by
       unfold zaU at he
       split at he
       ·rename_i q;exact absurd he q
       ·rename_i q;exact Classical.not_not.1 q
      obtain⟨hi,ew,_⟩:=zkm he
      show InW g c (ts.set i {t with x:=zf g (zcF (muZ g c t) (opT t).a (opT t).b),y:=getA t (opT t).c,pc:=1})
      rw[ew]
      have gx:=T.field x.h.h (zi2 t (opT t).a) hi
      have gy:Gd g c t (getA t (opT t).c):=by
       unfold getA
       split
       ·exact T.gd (zi2 _ _)
       ·exact .zero g c t
      obtain⟨X,hX⟩:∃X,X=fv g (t.reg (opT t).a) (opT t).b:=⟨_,rfl⟩
      have eX:zf g (t.reg (opT t).a+1+(opT t).b)=X:=hX.symm
      rw[eX]
      rw[←hX]at gx
      generalize getA t (opT t).c=Y at gy ⊢
      have hl:∀v,Hl {t with x:=X,y:=Y,pc:=1} v->Gd g c t v:=fun v hv=>by
       rcases hv with q|q|q|q|q|q
       ·exact T.gd (.inl q)
       ·exact T.gd (.inr (.inl q))
       ·exact T.gd (.inr (.inr (.inl q)))
       ·exact T.gd (.inr (.inr (.inr (.inl q))))
       ·rw[show v=X from q];exact gx
       ·rw[show v=Y from q];exact gy
      refine x.h.set x.hi (fun _=>⟨fun v hv=>(hl v hv).d,fun q=>absurd (show(1:Int)=0 from q) (by decide),fun p v hv=>(hl v hv).s6 p,fun _ _ _ _=>⟨fun q=>absurd (show(2:Int)<=1 from q) (by decide),fun q=>absurd (show(3:Int)<=1 from q) (by decide)⟩,fun _ _ _ _ _ _ _ _=>.inl hX.symm,fun p1 p2 he hs v hv hw=>(hl v hv).a p1 p2 he hs hw,fun p1 p2 he=>?_⟩) fun b f _ hw=>?_
      ·obtain⟨r1,r2,r3,r4⟩:=T.r p1 p2 he
       have z:=x.r p1 p2 he
       exact⟨r1,r2,fun q=>by have:0<t.root:=q;omega,fun _ r k1 k2=>by have:r<t.root:=k2;omega⟩
      ·rw[x.ht]at hw
       exact absurd ⟨hw.2.1,hw.2.2.1⟩ n0
    ·split
     ·rename_i hp;exact x.shade _ (.inl ⟨hp,rfl⟩)
     ·split
      ·rename_i hp;exact x.shade _ (.inr ⟨hp,rfl⟩)
      ·split
       ·rename_i hp
        have hp:t.pc=3:=hp
        have n0:¬(t.pc=4/\Sto t):=fun q=>by omega
        unfold zfY
        split
        ·exact x.end_ _ _ n0
        ·rename_i he
         exact x.write hp hk ha (Classical.not_not.1 he) hop
       ·unfold zf2
        have fin:∀ {k:Hp},InW k c ts->(∀a f,InF k a f->Wt t a f->Dir k a)->InW k c (ts.set i (ziA t)):=fun {k} hk hd=>by
         have x' : MuC k c ts i t:=⟨hk,x.hi,x.ht,x.l,x.m,x.r⟩
         exact x'.finish (u:=ziA t) rfl rfl rfl rfl rfl rfl (fun v hv=>(zkr hv).imp id .inl) hd
        split
        ·rename_i he
         have he:zaT (muZ g c t) (opT t).a (opT t).b=0:=he
         obtain⟨hi,_,ea,r0,r3⟩:=zkm he
         obtain⟨z1,z2,z3,z4⟩:=zaQ hi.1
         have hcd:za7 g (t.reg (opT t).a)=0:=ze4 hm ⟨z2,by omega⟩
         show InW (zaN g (zcZ (muZ g c t) (opT t).a (opT t).b)) c (ts.set i (ziA t))
         rw[ea]
         unfold zaN
         rw[decide_eq_true hcd]
         show InW (cset g (zbw g (t.reg (opT t).a)) true) c (ts.set i (ziA t))
         rw[zed hcd]
         obtain⟨c1,c2⟩:=znk hi.1
         refine fin (x.h.dirty c1 c2) fun b f hb hw=>?_
         have hb0:headE g b=0:=by rw[←za4 g (crN (t.reg (opT t).a)) true];exact hb.1
         refine(zen c1 c2 (zbt hb0)).2 ?_
         rw[if_pos (by rw[←hw.2.2.2.2.2.1])]
        ·rename_i he
         refine fin x.h fun b f hb hw=>absurd (zwW (c:=c) (t:=t) (f:=(opT t).b) ?_ hw.2.2.2.1 hw.2.2.2.2.1) he
         rw[hw.2.2.2.2.2.1,hw.2.2.2.2.2.2];exact hb
   ·split
    ·rename_i hk
     exact x.setEnd _ _ _ _ (.zero g c t) (nk 3 (by decide) hk)
    ·split
     ·rename_i hk;exact x.end_ _ _ (nk 4 (by decide) hk)
     ·split
      ·rename_i hk;exact x.end_ _ _ (nk 5 (by decide) hk)
      ·split
       ·rename_i hk
        obtain⟨_,o,_⟩:=zey hw
        exact(x.h.objs o).set x.hi (fun q=>by cases q) fun b f _ hw=>by
         rw[x.ht]at hw
         exact absurd ⟨hw.2.1,hw.2.2.1⟩ (nk 6 (by decide) hk)
       ·rename_i hk _ _ _ _
        have h2:(opT t).kind≠2:=by assumption
        exact x.end_ _ _ fun q=>h2 q.2
theorem InW.ans {g:Hp} {c:Col} {ts:List Thread} {i:Nat} {t:Thread} (h:InW g c ts) (hi:i<ts.length) (ht:ts[i]=t) (hc:za1 c=true) (hA:zaz c t=true) (ha:AnsT c t):InW (ansG g c t) (ansC g c t) (ts.set i (ansT c t)):=by
 obtain⟨hl,hm,hp,hn⟩:=zik hA
 obtain⟨m1,m2,_⟩:=zdy hc
 have T:ThI g c t:=h.t t (ht▸List.getElem_mem hi) hl
 obtain⟨a1,a2,a3⟩:=ha hl
 obtain⟨zx,zy⟩:=T.z hp
 have nw:∀a f,Wt ts[i] a f->False:=fun a f hw=>by
  rw[ht]at hw
  have:=hw.2.1
  omega
 rcases zc1 hA with⟨e1,e2,e3⟩|⟨e1,e2,e3,e4,e5⟩|⟨e0,e1,e2,e3,e4,e5,e6⟩
 ·have eg:ansG g c t=g:=by unfold ansG;rw[e2];rfl
  have ec:ansC g c t=c:=by unfold ansC;rw[e2];rfl
  rw[eg,ec,e3]
  have p1:c.phase<=1:=Classical.byContradiction fun q=>e1 (a1 (by omega))
  refine h.set hi (fun _=>⟨T.d,T.z,fun p=>by omega,fun _ _ _ _=>⟨fun q=>?_,fun q=>?_⟩,fun p=>by omega,fun p=>by omega,fun q1 q2 _=>⟨fun _=>⟨by show(1:Int)<=c.phase;omega,rfl⟩,fun _=>rfl,fun q=>absurd (show(0:Int)<0 from q) (by decide),fun _ r k1 k2=>?_⟩⟩) fun a f _ hw=>(nw a f hw).elim
  ·have:2<=t.pc:=q;omega
  ·have:3<=t.pc:=q;omega
  ·have:r<0:=k2;omega
 ·have eg:ansG g c t=g:=by unfold ansG;rw[e4];rfl
  have ec:ansC g c t=c:=by unfold ansC;rw[e4];rfl
  rw[eg,ec,e5]
  have hr:=(T.r (by omega) (by omega) e1).1 (by omega)
  refine h.set hi (fun _=>⟨T.d,T.z,fun p=>by omega,fun _ _ _ _=>⟨fun q=>?_,fun q=>?_⟩,fun _ _ _ _ _ q _ _=>?_,fun p=>by omega,fun q1 q2 _=>⟨fun _=>⟨by show(2:Int)<=c.phase;omega,hr.2⟩,fun q=>absurd (show(2:Int)=3 from q) (by decide),fun _=>hp,fun _ r k1 k2=>?_⟩⟩) fun a f _ hw=>(nw a f hw).elim
  ·have:2<=t.pc:=q;omega
  ·have:3<=t.pc:=q;omega
  ·have:1<=t.pc:=q;omega
  ·have:r<t.root:=k2;omega
 ·have p3:c.phase=3:=by
   by_cases q:4<=c.phase
   ·exact absurd (a3 q) e4
   ·omega
  have eg:ansG g c t=zJ g c (t.reg t.root):=by unfold ansG;rw[e5];rfl
  have ec:ansC g c t=zE g c (t.reg t.root):=by unfold ansC;rw[e5];rfl
  rw[eg,ec]
  have m:=zbz g c (t.reg t.root)
  have T':=T.mono m
  have hs:=zdX g c (t.reg t.root)
  have h':=h.shade (by omega) (by omega) (t.reg t.root)
  obtain⟨r1,r2,r3,r4⟩:=T'.r (by rw[m.ph];omega) (by rw[m.ph];omega) (by rw[m.e];exact e0)
  have r4:=r4 e4
  generalize hk:zJ g c (t.reg t.root)=k at *
  generalize hd:zE g c (t.reg t.root)=d at *
  have hm' : 0<=t.root:=hm.2.2.1
  have reg:∀r,0<=r->r<=t.root->atK k d (t.reg r)≠1:=fun r q1 q2=>by
   by_cases q:r=t.root
   ·rw[q];exact hs
   ·exact r4 r q1 (by omega)
  rw[e6]
  split
  ·rename_i hr
   have hh:∀v,Hl t v->atK k d v≠1:=fun v hv=>by
    rcases hv with q|q|q|q|q|q
    ·rw[q];exact reg 0 (by omega) (by omega)
    ·rw[q];exact reg 1 (by omega) (by omega)
    ·rw[q];exact reg 2 (by omega) (by omega)
    ·rw[q];exact reg 3 (by omega) (by omega)
    ·rw[q,zx,zgs];decide
    ·rw[q,zy,zgs];decide
   refine h'.set hi (fun _=>⟨T'.d,T'.z,T'.s6,fun _ _ _ _=>⟨fun q=>?_,fun q=>?_⟩,fun _ _ _ _ _ q _ _=>?_,fun _ _ _ _ v hv hw=>absurd hw (hh v hv),fun q1 q2 _=>⟨fun q=>?_,fun _=>rfl,fun q=>absurd (show(0:Int)<0 from q) (by decide),fun q=>absurd rfl q⟩⟩) fun a f _ hw=>(nw a f hw).elim
   ·have:2<=t.pc:=q;omega
   ·have:3<=t.pc:=q;omega
   ·have:1<=t.pc:=q;omega
   ·have:=m.ph;omega
  ·rename_i hr
   refine h'.set hi (fun _=>⟨T'.d,T'.z,T'.s6,fun _ _ _ _=>⟨fun q=>?_,fun q=>?_⟩,fun _ _ _ _ _ q _ _=>?_,fun _ _ _ q=>absurd q e4,fun q1 q2 _=>⟨fun q=>?_,fun q=>absurd q e4,fun _=>hp,fun _ r k1 k2=>?_⟩⟩) fun a f _ hw=>(nw a f hw).elim
   ·have:2<=t.pc:=q;omega
   ·have:3<=t.pc:=q;omega
   ·have:1<=t.pc:=q;omega
   ·have:=m.ph;omega
   ·have k2:r<t.root+1:=k2
    exact reg r k1 (by omega)
theorem InW.begin {g:Hp} {c:Col} {ts:List Thread} {i:Nat} {t:Thread} (h:InW g c ts) (hi:i<ts.length) (ht:ts[i]=t) (hl:t.live=false) (hc:za1 c=true):InW g c (ts.set i (beginT c t ts)):=by
 obtain⟨m1,m2,_⟩:=zdy hc
 refine h.set hi (fun _=>?_) fun a f _ hw=>by
  rw[ht]at hw
  have:=hw.1
  rw[hl]at this
  cases this
 have z0:atK g c 0≠1:=by rw[zgs];decide
 unfold beginT
 split
 ·rename_i y hy
  have Y:=h.t y (List.mem_of_find?_eq_some hy) (List.find?_some hy)
  have hh:∀v,Hl {t with live:=true,r0:=y.r0,r1:=0,r2:=0,r3:=0,epoch:=y.epoch,stage:=y.stage,root:=0,pc:=0,x:=0,y:=0} v->v=y.r0\/v=0:=fun v hv=>by
   rcases hv with q|q|q|q|q|q
   ·exact .inl q
   all_goals exact .inr q
  have Yh:Hl y y.r0:=.inl rfl
  refine⟨fun v hv=>?_,fun _=>⟨rfl,rfl⟩,fun p v hv=>?_,fun _ _ _ _=>⟨fun q=>absurd (show(2:Int)<=0 from q) (by decide),fun q=>absurd (show(3:Int)<=0 from q) (by decide)⟩,fun _ _ _ _ _ q _ _=>absurd (show(1:Int)<=0 from q) (by decide),fun p1 p2 he hs v hv hw=>?_,fun p1 p2 he=>?_⟩
  ·rcases hh v hv with rfl|rfl
   ·exact Y.d _ Yh
   ·exact .inl rfl
  ·rcases hh v hv with rfl|rfl
   ·exact Y.s6 p _ Yh
   ·exact z0
  ·rcases hh v hv with rfl|rfl
   ·exact Y.a p1 p2 he hs _ Yh hw
   ·exact absurd hw z0
  ·obtain⟨r1,r2,r3,r4⟩:=Y.r p1 p2 he
   exact⟨fun q=>⟨(r1 q).1,rfl⟩,fun _=>rfl,fun _=>rfl,fun _ r k1 k2=>by have:r<0:=k2;omega⟩
 ·have hh:∀v,Hl {t with live:=true,r0:=0,r1:=0,r2:=0,r3:=0,epoch:=if c.phase=0 then 0 else c.epoch,stage:=zbQ c.phase,root:=0,pc:=0,x:=0,y:=0} v->v=0:=fun v hv=>by
   rcases hv with q|q|q|q|q|q<;>exact q
  refine⟨fun v hv=>.inl (hh v hv),fun _=>⟨rfl,rfl⟩,fun p v hv=>by rw[hh v hv];exact z0,fun _ _ _ _=>⟨fun q=>absurd (show(2:Int)<=0 from q) (by decide),fun q=>absurd (show(3:Int)<=0 from q) (by decide)⟩,fun _ _ _ _ _ q _ _=>absurd (show(1:Int)<=0 from q) (by decide),fun p1 p2 he hs v hv hw=>by rw[hh v hv]at hw;exact absurd hw z0,fun p1 p2 he=>⟨fun q=>⟨?_,rfl⟩,fun _=>rfl,fun _=>rfl,fun _ r k1 k2=>by have:r<0:=k2;omega⟩⟩
  show zbQ c.phase<=c.phase
  unfold zbQ
  rw[if_neg (by omega)]
  split
  ·omega
  ·rw[if_pos (by omega)];omega
theorem InW.start {g:Hp} {c:Col} {ts:List Thread} (h:InW g c ts) (hE:EpH c.epoch g) (hT:∀t∈ts,t.epoch<=c.epoch) (hp:c.phase=0) (m:Bool):InW g ⟨1,c.epoch+1,m,[],false,0,0,0,0,false⟩ ts:=by
 obtain⟨d,hd⟩:∃d:Col,d=⟨1,c.epoch+1,m,[],false,0,0,0,0,false⟩:=⟨_,rfl⟩
 rw[←hd]
 have ph:d.phase=1:=by rw[hd]
 have ep:d.epoch=c.epoch+1:=by rw[hd]
 have kk:∀u,atK g d u≠2/\atK g d u≠3:=fun u=>by
  by_cases h0:headE g u=0
  ·rw[zbC h0]
   have:=(hE u h0).1
   exact⟨fun q=>by have:=(zaL.2.1.1 q).2.1;omega,fun q=>by have:=(zaL.2.2.1 q).2.1;omega⟩
  ·rw[zeR h0];decide
 have ne:∀t∈ts,t.epoch≠d.epoch:=fun t ht=>by have:=hT t ht;omega
 refine⟨⟨fun a f hi _=>h.h.d a f hi (by omega),fun p=>by omega,fun p=>by omega,fun p=>by omega,fun p=>by omega,fun _ _ a f hi q=>absurd q (kk a).2,fun _ _ u=>(kk u).2,fun _ _ u q=>absurd q (kk u).1,fun _ _ u hu=>?_,fun p=>by omega,fun p=>by omega,fun p=>by omega,fun p=>by omega⟩,
  fun t ht hl=>⟨(h.t t ht hl).d,(h.t t ht hl).z,fun p=>by omega,fun _ _ q=>absurd q (ne t ht),fun _ _ q=>absurd q (ne t ht),fun _ _ q=>absurd q (ne t ht),fun _ _ q=>absurd q (ne t ht)⟩,⟨fun _ _ mj a f hi ho hw=>?_,fun p=>by omega,fun a f hi ho hn hv hvo=>?_⟩⟩
 ·rw[hd]at hu;cases hu
 ·have hv:=zaK (g:=g) (c:=d) (a:=fv g a f) (by omega)
  rcases h.j.j a f hi ho (by omega) hv (zil hw mj) with q|⟨t,ht,q⟩|q
  ·exact .inl q
  ·exact .inr ⟨t,ht,ne t ht,q⟩
  ·omega
 ·rcases h.j.j a f hi ho (by omega) hv hvo with q|q|q
  ·exact .inl q
  ·exact .inr (.inl q)
  ·omega
theorem InW.next {g:Hp} {c:Col} {ts:List Thread} (h:InW g c ts) (hc:za1 c=true) (p1:1<=c.phase) (p3:c.phase<=3) (ha:∀t∈ts,AnsT c t) (hall:zju c ts=true):InW g (zhj c) ts:=by
 obtain⟨m1,m2,m3,m4,m5,_⟩:=zdy hc
 by_cases e:c.phase=3
 ·have hb:∀t∈ts,t.live=true->t.epoch=c.epoch/\t.stage=3:=fun t ht hl=>by
   have hb:=zlm hall ht hl
   unfold zad at hb
   rw[if_neg (by omega),if_neg (by omega),if_neg (by omega)]at hb
   exact of_decide_eq_true hb
  obtain⟨d,hd⟩:∃d:Col,d=zhj c:=⟨_,rfl⟩
  have hd' : d={c with phase:=if c.major=true then 5 else 4,at_:=0,field_:=0,seek:=0,card:=0,met:=false}:=by
   rw[hd];unfold zhj;rw[if_pos e]
  rw[←hd]
  have ep:d.epoch=c.epoch:=by rw[hd']
  have mj:d.major=c.major:=by rw[hd']
  have ph:d.phase=if c.major=true then 5 else 4:=by rw[hd']
  have at0:d.at_=0:=by rw[hd']
  have sk:d.seek=0:=by rw[hd']
  have wk:d.work=c.work:=by rw[hd']
  have ov:d.over=c.over:=by rw[hd']
  have fl:d.field_=0:=by rw[hd']
  have cd:d.card=0:=by rw[hd']
  have p45:d.phase=4/\d.major=false\/d.phase=5/\d.major=true:=by
   rw[ph,mj]
   cases c.major with
   |true=>exact .inr ⟨rfl,rfl⟩
   |false=>exact .inl ⟨rfl,rfl⟩
  clear hd' hd
  have kk:∀u,atK g d u=atK g c u:=fun u=>zbW ep mj g u
  have pr:∀ {u},Prot g c u->Prot g d u:=fun {u} hu=>by
   induction hu with
   |base s f hi hk=>exact .base s f hi (by rw[kk];exact hk)
   |step s f hi _ ih=>exact .step s f hi ih
  refine⟨⟨fun a f hi _=>h.h.d a f hi (by omega),fun p=>by omega,fun p=>by omega,fun p=>by omega,fun p=>by omega,fun _ _ a f hi q=>by rw[kk]at q ⊢;exact h.h.b p1 (by omega) a f hi q,fun _ p=>by omega,fun _ _ u q=>?_,fun _ _ u hu=>?_,fun _=>.inl at0,fun _ q=>?_,fun p a f hi q=>?_,fun p=>?_⟩,
   fun t ht hl=>?_,⟨fun _ p=>by omega,fun p a f hi ho hw=>?_,fun a f hi ho hn hv hvo=>?_⟩⟩
  ·rw[kk]at q
   rw[ov,wk]
   rcases h.h.kn p1 (by omega) u q with z|z|z
   ·exact .inl z
   ·exact .inr (.inl z)
   ·omega
  ·rw[wk]at hu;rw[kk];exact h.h.wk p1 (by omega) u hu
  ·rw[at0,zgs]at q;cases q
  ·rw[kk]at q
   obtain⟨_,z⟩:=znG q hi.1 ⟨m3,m5⟩
   rw[mj]at p45
   rcases p45 with k|k
   ·omega
   ·rw[z]at k;cases k.2
  ·refine⟨by rcases p45 with k|k;exact k.2;omega,by omega,fun q=>absurd sk q,by omega,fun q=>absurd at0 q⟩
  ·have T:=h.t t ht hl
   refine⟨T.d,T.z,fun p=>by omega,fun q1 q2 he hs=>?_,fun q1 q2 he hst hs k1 k2 hi=>?_,fun q1 q2 he hs v hv hw=>?_,fun _ q=>by omega⟩
   ·rw[kk,kk];exact T.s p1 (by omega) (by rw[←ep];exact he) hs
   ·rw[kk];exact T.f (by omega) (by omega) (by rw[←ep];exact he) hst hs k1 k2 hi
   ·rw[kk]at hw;exact pr (T.a (by omega) (by omega) (by rw[←ep];exact he) hs v hv hw)
  ·have hm:c.major=false:=by rw[←mj];rcases p45 with k|k;exact k.2;omega
   rw[kk]at hw
   refine .inl ⟨?_,fun _=>by have:=znk hi.1;omega,fun q=>absurd sk q⟩
   rcases h.j.jw p1 p3 hm a f hi ho hw with q|⟨t,ht,q1,q2⟩
   ·exact q
   ·exact absurd (hb t ht q2.1).1 q1
  ·rw[kk]at hn
   rcases h.j.j a f hi ho (by omega) hv hvo with q|q|q
   ·exact .inl q
   ·exact .inr (.inl q)
   ·omega
 ·obtain⟨d,hd⟩:∃d:Col,d=zhj c:=⟨_,rfl⟩
  have hd' : d={c with phase:=c.phase+1}:=by
   rw[hd];unfold zhj;rw[if_neg e]
  rw[←hd]
  have ep:d.epoch=c.epoch:=by rw[hd']
  have mj:d.major=c.major:=by rw[hd']
  have ph:d.phase=c.phase+1:=by rw[hd']
  have wk:d.work=c.work:=by rw[hd']
  have ov:d.over=c.over:=by rw[hd']
  clear hd' hd
  have kk:∀u,atK g d u=atK g c u:=fun u=>zbW ep mj g u
  refine⟨⟨fun a f hi _=>h.h.d a f hi (by omega),fun p=>by omega,fun p=>by omega,fun p=>by omega,fun p=>by omega,fun _ _ a f hi q=>by rw[kk]at q ⊢;exact h.h.b p1 (by omega) a f hi q,fun _ p u=>by rw[kk];exact h.h.l0 p1 (by omega) u,fun _ _ u q=>?_,fun _ _ u hu=>?_,fun p=>by omega,fun p=>by omega,fun p=>by omega,fun p=>by omega⟩,
   fun t ht hl=>?_,⟨fun _ _ m a f hi ho hw=>?_,fun p=>by omega,fun a f hi ho hn hv hvo=>?_⟩⟩
  ·rw[kk]at q
   rw[ov,wk]
   rcases h.h.kn p1 (by omega) u q with z|z|z
   ·exact .inl z
   ·exact .inr (.inl z)
   ·omega
  ·rw[wk]at hu;rw[kk];exact h.h.wk p1 (by omega) u hu
  ·have T:=h.t t ht hl
   refine⟨T.d,T.z,fun p=>by omega,fun q1 q2 he hs=>?_,fun q1 q2 he hst hs k1 k2 hi=>?_,fun q1 q2 he hs v hv hw=>?_,fun q1 q2 he=>?_⟩
   ·rw[kk,kk];exact T.s p1 (by omega) (by rw[←ep];exact he) hs
   ·rw[kk]
    rw[ep]at he
    by_cases p:c.phase=1
    ·have:=((T.r p1 p3 he).1 (by omega)).1;omega
    ·exact T.f (by omega) (by omega) he hst hs k1 k2 hi
   ·rw[ep]at he
    have:=((T.r p1 p3 he).1 (by omega)).1;omega
   ·rw[ep]at he
    obtain⟨r1,r2,r3,r4⟩:=T.r p1 p3 he
    obtain⟨z1,z2⟩:=r1 (by omega)
    exact⟨fun _=>⟨by omega,z2⟩,fun _=>z2,r3,fun _ r k1 k2=>by omega⟩
  ·rw[kk]at hw
   rw[mj]at m
   rcases h.j.jw p1 p3 m a f hi ho hw with q|⟨t,ht,q1,q2⟩
   ·exact .inl q
   ·exact .inr ⟨t,ht,by rw[ep];exact q1,q2⟩
  ·rcases h.j.j a f hi ho (by omega) hv hvo with q|q|q
   ·exact .inl q
   ·exact .inr (.inl q)
   ·omega
theorem zpt {g:Hp} {c d:Col} (ep:d.epoch=c.epoch) (mj:d.major=c.major) (ph:d.phase=c.phase):Mono g g c d:=
 ⟨ep,ph,mj,fun _=>rfl,fun _=>rfl,fun _=>rfl,fun _ _ _=>rfl,fun u q=>by rw[←zbW ep mj g u];exact q⟩
theorem InW.col5 {g:Hp} {c d:Col} {ts:List Thread} (h:InW g c ts) (p:c.phase=5) (ph:d.phase=5) (ep:d.epoch=c.epoch) (mj:d.major=c.major)
  (kn:∀u,atK g c u=2->d.over=true\/u∈d.work\/(u=d.at_\/(d.seek≠0/\d.seek<u))) (wk:∀u∈d.work,atK g c u=2\/atK g c u=3) (a5:d.at_=0\/atK g c d.at_=2\/atK g c d.at_=3)
  (t5:atK g c d.at_=2->0<=d.field_/\d.field_<(headH g d.at_).n/\∀f,0<=f->f<d.field_->atK g c (fv g d.at_ f)≠1):InW g d ts:=by
 have kk:∀u,atK g d u=atK g c u:=fun u=>zbW ep mj g u
 refine⟨⟨fun a f hi _=>h.h.d a f hi (by omega),fun q=>by omega,fun q=>by omega,fun q=>by omega,fun q=>by omega,fun _ _ a f hi q=>by rw[kk]at q ⊢;exact h.h.b (by omega) (by omega) a f hi q,fun _ q=>by omega,fun _ _ u q=>?_,fun _ _ u hu=>by rw[kk];exact wk u hu,fun _=>by rw[kk];exact a5,fun _ q=>?_,fun _ a f hi q=>by rw[kk]at q ⊢;exact h.h.e5 p a f hi q,fun q=>by omega⟩,
  fun t ht hl=>(h.t t ht hl).mono (zpt ep mj (by omega)),⟨fun _ q=>by omega,fun q=>by omega,fun a f hi ho hn hv hvo=>?_⟩⟩
 ·rw[kk]at q
  rcases kn u q with z|z|z
  ·exact .inl z
  ·exact .inr (.inl z)
  ·exact .inr (.inr ⟨ph,z⟩)
 ·rw[kk]at q
  obtain⟨t1,t2,t3⟩:=t5 q
  exact⟨t1,t2,fun f f0 f1=>by rw[kk];exact t3 f f0 f1⟩
 ·rcases h.j.j a f hi ho (by omega) hv hvo with q|q|q
  ·exact .inl q
  ·exact .inr (.inl q)
  ·omega
theorem InW.black {g:Hp} {c:Col} {ts:List Thread} (h:InW g c ts) (p:c.phase=5) (hk:atK g c c.at_=2) (hb:∀f,InF g c.at_ f->atK g c (fv g c.at_ f)≠1) (e:Col) (he:e.epoch=c.epoch) (hm:e.major=c.major):InW (zan g e c.at_) {c with at_:=0,field_:=0} ts:=by
 have e0:zan g e c.at_=zan g c c.at_:=by unfold zan;rw[zbW he hm]
 rw[e0]
 obtain⟨k,hK⟩:∃k,k=zan g c c.at_:=⟨_,rfl⟩
 obtain⟨d,hd⟩:∃d:Col,d={c with at_:=0,field_:=0}:=⟨_,rfl⟩
 have mk:=zo5 g c c.at_
 have ep:d.epoch=c.epoch:=by rw[hd]
 have mj:d.major=c.major:=by rw[hd]
 have ph:d.phase=c.phase:=by rw[hd]
 have kk:∀u,atK k d u=if u=c.at_ then 3 else atK g c u:=fun u=>by
  rw[zbW ep mj,hK,zuD]
  by_cases q:u=c.at_
  ·rw[if_pos ⟨q,hk⟩,if_pos q]
  ·rw[if_neg (fun z=>q z.1),if_neg q]
 rw[←hK]at mk ⊢
 rw[←hd]
 have m:Mono g k c d:=mk.mono ⟨ep,ph,mj⟩ fun u q=>by
  rw[kk]at q
  split at q
  ·cases q
  ·exact q
 have at0:d.at_=0:=by rw[hd]
 have k0:atK k d 0=0:=zgs k d
 have n1:∀u,atK g c u≠1->atK k d u≠1:=fun u=>m.nw
 refine⟨⟨fun a f hi _=>?_,fun q=>by omega,fun q=>by omega,fun q=>by omega,fun q=>by omega,fun _ _ a f hi q=>?_,fun _ q=>by omega,fun _ _ u q=>?_,fun _ _ u hu=>?_,fun _=>.inl at0,fun _ q=>?_,fun _ a f hi q=>?_,fun q=>by omega⟩,fun t ht hl=>(h.t t ht hl).mono m,⟨fun _ q=>by omega,fun q=>by omega,fun a f hi ho hn hv hvo=>?_⟩⟩
 ·rw[m.fld _ _ (m.inF hi)];exact m.ref (h.h.d a f (m.inF hi) (by omega))
 ·rw[m.fld _ _ (m.inF hi)]
  rw[kk]at q
  split at q
  ·rename_i z
   have:=m.inF hi
   rw[z]at this ⊢
   exact n1 _ (hb f this)
  ·exact n1 _ (h.h.b (by omega) (by omega) a f (m.inF hi) q)
 ·rw[kk]at q
  split at q
  ·cases q
  ·rename_i z
   rcases h.h.kn (by omega) (by omega) u q with y|y|⟨_,y|y⟩
   ·exact .inl (by rw[hd];exact y)
   ·exact .inr (.inl (by rw[hd];exact y))
   ·exact absurd y z
   ·exact .inr (.inr ⟨by omega,.inr (by rw[hd];exact y)⟩)
 ·have:=h.h.wk (by omega) (by omega) u (by rw[hd]at hu;exact hu)
  rw[kk]
  split
  ·exact .inr rfl
  ·exact this
 ·rw[at0,k0]at q;cases q
 ·rw[m.fld _ _ (m.inF hi)]
  rw[kk]at q
  split at q
  ·cases q
  ·exact n1 _ (h.h.e5 p a f (m.inF hi) q)
 ·have hi':=m.inF hi
  rw[m.fld _ _ hi']at hv hvo
  rw[m.old]at ho hvo
  rw[m.ob]at hv
  rcases h.j.j a f hi' ho (by omega) hv hvo with q|q|q
  ·exact .inl (mk.dir.2 q)
  ·exact .inr (.inl q)
  ·omega
theorem zg6 {g:Hp} {a f:Int} (hi:InF g a f):wordOf g (a+1+f)=fv g a f:=by
 have:=znl hi.1 (f:=1+f) (by have:=hi.2.1;omega) (by have:=hi.2.2;omega)
 show wordOf g (a+1+f)=zf g (a+1+f)
 rw[show a+1+f=a+(1+f) by omega];exact this
theorem zeZ {g:Hp} {c:Col} {a:Int}:(atK g c a=2->zaX g c a=(headH g a).n/\1<=zaX g c a)/\(1<=zaX g c a->atK g c a=2):=by
 unfold zaX
 refine⟨fun h=>?_,fun h=>?_⟩
 ·rw[if_pos h]
  exact⟨rfl,(zar (zaK (by omega:atK g c a≠0))).2.1⟩
 ·by_cases q:atK g c a=2
  ·exact q
  ·rw[if_neg q]at h;omega
theorem InW.trace {g k:Hp} {c d:Col} {ts:List Thread} (h:InW g c ts) (s:TStep g c k d) (hc:za1 c=true) (ha:∀t∈ts,AnsT c t):InW k d ts:=by
 have k0:atK g c 0=0:=zgs g c
 cases s
 case idle=>exact h
 case lost hm hp h0 hf=>
  have ng:atK g c c.at_≠2:=fun q=>by
   obtain⟨t1,t2,_⟩:=h.h.t5 hp q
   have:=(zeZ.1 q).1
   omega
  refine h.col5 hp hp rfl rfl (fun u q=>?_) (h.h.wk (by omega) (by omega)) (.inl rfl) (fun q=>by
   have:atK g c 0=2:=q
   omega)
  rcases h.h.kn (by omega) (by omega) u q with z|z|⟨_,z|z⟩
  ·exact .inl z
  ·exact .inr (.inl z)
  ·exact absurd q (by rw[z];exact ng)
  ·exact .inr (.inr (.inr z))
 case last hm hp h0 hf0 hf v hv=>
  have kg:atK g c c.at_=2:=zeZ.2 (by omega)
  obtain⟨t1,t2,t3⟩:=h.h.t5 hp kg
  have hn:=(zeZ.1 kg).1
  have hob:=zaK (by omega:atK g c c.at_≠0)
  have hi:InF g c.at_ c.field_:=⟨hob,hf0,by omega⟩
  rw[zg6 hi]at hv
  have m:=zbz g c v
  obtain⟨e1,e2,e3,e4,e5⟩:=zcr g c v
  have h1:=h.shade (by omega) (by omega) v
  have nv:=zdX g c v
  have kg1:atK (zJ g c v) (zE g c v) (zE g c v).at_=2:=by
   rw[e3,zev,if_neg]
   ·exact kg
   ·rintro⟨z1,z2⟩;rw[←z1]at z2;omega
  have h2:=h1.black (by rw[m.ph];exact hp) kg1 (fun f hf=>by
   rw[e3]at hf ⊢
   have hf':=m.inF hf
   rw[m.fld _ _ hf']
   by_cases q:f=c.field_
   ·rw[q,←hv];exact nv
   ·have:=hf'.2
    exact m.nw (t3 f this.1 (by omega))) c m.e.symm m.mj.symm
  rw[e3]at h2
  exact h2
 case more hm hp h0 hf0 hf v hv=>
  have kg:atK g c c.at_=2:=zeZ.2 (by omega)
  obtain⟨t1,t2,t3⟩:=h.h.t5 hp kg
  have hn:=(zeZ.1 kg).1
  have hob:=zaK (by omega:atK g c c.at_≠0)
  have hi:InF g c.at_ c.field_:=⟨hob,hf0,by omega⟩
  rw[zg6 hi]at hv
  have m:=zbz g c v
  obtain⟨e1,e2,e3,e4,e5⟩:=zcr g c v
  have h1:=h.shade (by omega) (by omega) v
  have nv:=zdX g c v
  have p1:(zE g c v).phase=5:=by rw[m.ph];exact hp
  refine h1.col5 p1 p1 rfl rfl (fun u q=>?_) (h1.h.wk (by omega) (by omega)) (h1.h.a5 p1) (fun q=>?_)
  ·rcases h1.h.kn (by omega) (by omega) u q with z|z|⟨_,z⟩
   ·exact .inl z
   ·exact .inr (.inl z)
   ·exact .inr (.inr z)
  ·show 0<=c.field_+1/\c.field_+1<(headH (zJ g c v) (zE g c v).at_).n/\∀f,0<=f->f<c.field_+1->atK _ _ (fv (zJ g c v) (zE g c v).at_ f)≠1
   rw[e3,m.n]
   refine⟨by omega,by omega,fun f f0 f1=>?_⟩
   have hf' : InF g c.at_ f:=⟨hob,f0,by omega⟩
   rw[m.fld _ _ hf']
   by_cases q:f=c.field_
   ·rw[q,←hv];exact nv
   ·exact m.nw (t3 f f0 (by omega))
 case pop hm hp h0 r x hw=>
  have hx:=h.h.wk (by omega) (by omega) x (by rw[hw];exact List.mem_append_right _ (List.mem_singleton.2 rfl))
  refine h.col5 hp hp rfl rfl (fun u q=>?_) (fun u hu=>h.h.wk (by omega) (by omega) u (by rw[hw];exact List.mem_append_left _ hu)) (.inr hx) (fun q=>⟨Int.le_refl _,(zar (zaK (by omega:atK g c x≠0))).2.1,fun f f0 f1=>by have:f<0:=f1;omega⟩)
  rcases h.h.kn (by omega) (by omega) u q with z|z|⟨_,z|z⟩
  ·exact .inl z
  ·rw[hw]at z
   rcases List.mem_append.1 z with z|z
   ·exact .inr (.inl z)
   ·exact .inr (.inr (.inl (List.mem_singleton.1 z)))
  ·rw[z,h0]at q;omega
  ·exact .inr (.inr (.inr z))
 case pass hm hp h0 hw hs hg=>
  refine h.col5 hp hp rfl rfl (fun u q=>?_) (h.h.wk (by omega) (by omega)) (h.h.a5 hp) (h.h.t5 hp)
  rcases h.h.kn (by omega) (by omega) u q with z|z|⟨_,z|⟨z1,z2⟩⟩
  ·exact .inl z
  ·exact .inr (.inl z)
  ·exact .inr (.inr (.inl z))
  ·have hu:=zn.2 (zG (zaK (by omega:atK g c u≠0))).2.1
   rcases zgq g.pages c.seek with⟨_,y⟩|⟨y1,y2,y3⟩
   ·have:=y u hu;omega
   ·have:=y3 u hu z2
    have:u≠zO g.pages c.seek:=fun e=>by
     have:=(zeZ.1 (e▸q)).2;omega
    refine .inr (.inr (.inr ⟨?_,?_⟩))
    ·show zO g.pages c.seek≠0
     have:=(zaf (zq (zn.1 y2))).1
     have:16<=zO g.pages c.seek:=this
     omega
    ·show zO g.pages c.seek<u
     omega
 case find hm hp h0 hw hs hg=>
  have hn:atK g c (zO g.pages c.seek)=2:=by
   by_cases q:atK g c (zO g.pages c.seek)=2
   ·exact q
   ·exact absurd (by unfold zaX;rw[if_neg q]) hg
  refine h.col5 hp hp rfl rfl (fun u q=>?_) (h.h.wk (by omega) (by omega)) (.inr (.inl hn)) (fun q=>⟨Int.le_refl _,(zar (zaK (by omega:atK g c (zO g.pages c.seek)≠0))).2.1,fun f f0 f1=>by have:f<0:=f1;omega⟩)
  rcases h.h.kn (by omega) (by omega) u q with z|z|⟨_,z|⟨z1,z2⟩⟩
  ·exact .inl z
  ·exact .inr (.inl z)
  ·rw[z,h0]at q;omega
  ·have hu:=zn.2 (zG (zaK (by omega:atK g c u≠0))).2.1
   rcases zgq g.pages c.seek with⟨_,y⟩|⟨y1,y2,y3⟩
   ·have:=y u hu;omega
   ·have:=y3 u hu z2
    by_cases e:u=zO g.pages c.seek
    ·exact .inr (.inr (.inl e))
    ·refine .inr (.inr (.inr ⟨?_,?_⟩))
     ·show zO g.pages c.seek≠0
      have:=(zaf (zq (zn.1 y2))).1
      have:16<=zO g.pages c.seek:=this
      omega
     ·show zO g.pages c.seek<u
      omega
 case again hm hp h0 hw hs ho=>
  refine h.col5 hp hp rfl rfl (fun u q=>.inr (.inr (.inr ⟨by show(1:Int)≠0;decide,?_⟩))) (h.h.wk (by omega) (by omega)) (h.h.a5 hp) (h.h.t5 hp)
  have:=zbt (zaK (by omega:atK g c u≠0))
  show 1<u
  omega
 case fin hm hp h0 hw hs ho=>
  obtain⟨d,hd⟩:∃d:Col,d={c with phase:=6,at_:=0,field_:=0,seek:=0,card:=0,met:=false}:=⟨_,rfl⟩
  rw[←hd]
  have ep:d.epoch=c.epoch:=by rw[hd]
  have mj:d.major=c.major:=by rw[hd]
  have ph:d.phase=6:=by rw[hd]
  have sk:d.seek=0:=by rw[hd]
  have mt:d.met=false:=by rw[hd]
  clear hd
  have kk:∀u,atK g d u=atK g c u:=fun u=>zbW ep mj g u
  have ng:∀u,atK g c u≠2:=fun u q=>by
   rcases h.h.kn (by omega) (by omega) u q with z|z|⟨_,z|⟨z,_⟩⟩
   ·rw[ho]at z;cases z
   ·rw[hw]at z;cases z
   ·rw[z,h0]at q;omega
   ·exact z hs
  have nf:∀a f,InF g a f->atK g c a≠1->atK g c (fv g a f)≠1:=fun a f hi q=>by
   rcases ztq g c a with z|z|z|z
   ·exact h.h.e5 hp a f hi z
   ·exact absurd z q
   ·exact absurd z (ng a)
   ·exact h.h.b (by omega) (by omega) a f hi z
  refine⟨⟨fun a f hi _=>h.h.d a f hi (by omega),fun _ u=>by rw[kk];exact ng u,fun _ u q=>?_,fun _ a f hi q=>by rw[kk]at q ⊢;exact nf a f hi q,fun _ q=>absurd (mt.symm.trans q) (by decide),fun _ q=>by omega,fun _ q=>by omega,fun _ q=>by omega,fun _ q=>by omega,fun q=>by omega,fun q=>by omega,fun q=>by omega,fun q=>by omega⟩,fun t ht hl=>?_,⟨fun _ q=>by omega,fun q=>by omega,fun a f hi ho hn hv hvo=>?_⟩⟩
  ·rw[kk]at q
   have:=zbt (zaK (by omega:atK g c u≠0))
   omega
  ·have T:=h.t t ht hl
   obtain⟨a1,_,a3⟩:=ha t ht hl
   refine⟨T.d,T.z,fun _ v hv=>?_,fun _ q=>by omega,fun _ q=>by omega,fun _ q=>by omega,fun _ q=>by omega⟩
   rw[kk]
   intro q
   exact(T.a (by omega) (by omega) (a1 (by omega)) (a3 (by omega)) v hv q).none nf q
  ·rcases h.j.j a f hi ho (by omega) hv hvo with q|q|q
   ·exact .inl q
   ·exact .inr (.inl q)
   ·omega
theorem InW.col4 {g k:Hp} {c d:Col} {ts:List Thread} (h:InW g c ts) (p:c.phase=4) (ph:d.phase=4) (ep:d.epoch=c.epoch) (mj:d.major=c.major) (wk:d.work=c.work) (ov:d.over=c.over)
  (hk:k=g\/∃n b,k=cset g n b) (z4:0<=d.card/\(d.seek≠0->d.card<(g.cards.length:Int))/\0<=d.field_/\(d.at_≠0->d.seek=d.at_))
  (j4:∀a f,InF g a f->(headH g a).old=true->atK g c (fv g a f)=1->zwu g c a f->zwu k d a f)
  (j:∀a f,InF g a f->(headH g a).old=true->headE g (fv g a f)=0->(headH g (fv g a f)).old=false->(Dir g a\/(c.seek≠0/\crN a=c.card/\(c.met=true\/zgl c a f)))->Dir k a\/(d.seek≠0/\crN a=d.card/\(d.met=true\/zgl d a f))):InW k d ts:=by
 have hE:∀u,headE k u=headE g u:=fun u=>by
  rcases hk with rfl|⟨n,b,rfl⟩
  ·rfl
  ·exact za4 g n b u
 have hH:∀u,headH k u=headH g u:=fun u=>by
  rcases hk with rfl|⟨n,b,rfl⟩
  ·rfl
  ·exact zbP g n b u
 have hF:∀a f,fv k a f=fv g a f:=fun a f=>by
  rcases hk with rfl|⟨n,b,rfl⟩<;>rfl
 have hL:k.cards.length=g.cards.length:=by
  rcases hk with rfl|⟨n,b,rfl⟩
  ·rfl
  ·exact zpQ g n b
 have kk:∀u,atK k d u=atK g c u:=fun u=>by rw[zbW ep mj,zbH (hE u) (hH u)]
 have m:Mono g k c d:=⟨ep,by omega,mj,hE,fun u=>by rw[hH],fun u=>by rw[hH],fun a f _=>hF a f,fun u q=>by rw[←kk];exact q⟩
 refine⟨⟨fun a f hi _=>by rw[hF];exact m.ref (h.h.d a f (m.inF hi) (by omega)),fun q=>by omega,fun q=>by omega,fun q=>by omega,fun q=>by omega,fun _ _ a f hi q=>by rw[hF,kk];rw[kk]at q;exact h.h.b (by omega) (by omega) a f (m.inF hi) q,fun _ q=>by omega,fun _ _ u q=>?_,fun _ _ u hu=>by rw[kk];exact h.h.wk (by omega) (by omega) u (wk▸hu),fun q=>by omega,fun q=>by omega,fun q=>by omega,fun _=>?_⟩,
  fun t ht hl=>(h.t t ht hl).mono m,⟨fun _ q=>by omega,fun _ a f hi ho hw=>?_,fun a f hi ho hn hv hvo=>?_⟩⟩
 ·rw[kk]at q
  rw[ov,wk]
  rcases h.h.kn (by omega) (by omega) u q with z|z|z
  ·exact .inl z
  ·exact .inr (.inl z)
  ·omega
 ·rw[mj,hL]
  exact⟨(h.h.z4 p).1,z4⟩
 ·rw[hH]at ho
  rw[hF,kk]at hw
  exact j4 a f (m.inF hi) ho hw (h.j.j4 p a f (m.inF hi) ho hw)
 ·rw[hF]at hv hvo
  rw[hE]at hv
  rw[hH]at ho hvo
  have:=j a f (m.inF hi) ho hv hvo
  rcases h.j.j a f (m.inF hi) ho (by omega) hv hvo with q|q|⟨_,q⟩
  ·exact(this (.inl q)).imp id fun z=>.inr ⟨ph,z⟩
  ·exact .inr (.inl q)
  ·exact(this (.inr q)).imp id fun z=>.inr ⟨ph,z⟩
theorem InW.scan {g k : Hp} {c d : Col} {ts : List Thread} (h : InW g c ts) (s : SStep g c k d) (hc : za1 c = true) : InW k d ts := by
  obtain ⟨_, _, m3, _, m5, _⟩ := zdy hc
  have k0 : atK g c 0 = 0 := zgs g c
  cases s
  case idle => exact h
  case fin hm hp hf =>
    obtain ⟨z1, z2, z3, z4, z5⟩ := h.h.z4 hp
    obtain ⟨d, hd⟩ : ∃ d : Col, d = { c with phase := 5, seek := 0, card := 0, met := false, at_ := 0, field_ := 0 } := ⟨_, rfl⟩
    rw [← hd]
    have ep : d.epoch = c.epoch := by rw [hd]
    have mj : d.major = c.major := by rw [hd]
    have ph : d.phase = 5 := by rw [hd]
    have wk : d.work = c.work := by rw [hd]
    have ov : d.over = c.over := by rw [hd]
    have at0 : d.at_ = 0 := by rw [hd]
    clear hd
    have kk : ∀ u, atK g d u = atK g c u := fun u => zbW ep mj g u
    have pr : ∀ {u}, Prot g c u -> Prot g d u := fun {u} hu => by
      induction hu with
      | base s f hi hk => exact .base s f hi (by rw [kk]; exact hk)
      | step s f hi _ ih => exact .step s f hi ih
    have noP : ∀ a f, InF g a f -> ¬ zwu g c a f := fun a f hi q => by
      have := znk hi.1
      rcases q with ⟨_, q1, _⟩ | ⟨q, _⟩
      · by_cases s0 : c.seek = 0
        · have := q1 s0; omega
        · have := z3 s0; omega
      · have := z3 q; omega
    refine ⟨⟨fun a f hi _ => h.h.d a f hi (by omega), fun q => by omega, fun q => by omega, fun q => by omega, fun q => by omega, fun _ _ a f hi q => by rw [kk] at q ⊢; exact h.h.b (by omega) (by omega) a f hi q, fun _ q => by omega, fun _ _ u q => ?_, fun _ _ u hu => by rw [kk]; exact h.h.wk (by omega) (by omega) u (wk ▸ hu), fun _ => .inl at0, fun _ q => ?_, fun _ a f hi q => ?_, fun q => by omega⟩, fun t ht hl => ?_, ⟨fun _ q => by omega, fun q => by omega, fun a f hi ho hn hv hvo => ?_⟩⟩
    · rw [kk] at q
      rw [ov, wk]
      rcases h.h.kn (by omega) (by omega) u q with z | z | z
      · exact .inl z
      · exact .inr (.inl z)
      · omega
    · rw [at0, zgs] at q; cases q
    · rw [kk] at q
      rw [kk]
      intro w
      exact noP a f hi (h.j.j4 hp a f hi (znG q hi.1 ⟨m3, m5⟩).1 w)
    · have T := h.t t ht hl
      refine ⟨T.d, T.z, fun q => by omega, fun q1 q2 he hs => ?_, fun q1 q2 he hst hs k1 k2 hi => ?_, fun q1 q2 he hs v hv hw => ?_, fun _ q => by omega⟩
      · rw [kk, kk]; exact T.s (by omega) (by omega) (by rw [← ep]; exact he) hs
      · rw [kk]; exact T.f (by omega) (by omega) (by rw [← ep]; exact he) hst hs k1 k2 hi
      · rw [kk] at hw; exact pr (T.a (by omega) (by omega) (by rw [← ep]; exact he) hs v hv hw)
    · rcases h.j.j a f hi ho (by omega) hv hvo with q | q | ⟨_, q, _⟩
      · exact .inl q
      · exact .inr (.inl q)
      · have := z3 q; omega
  case clean hm hp h0 hl hs hd =>
    obtain ⟨z1, z2, z3, z4, z5⟩ := h.h.z4 hp
    have nn : ∀ a f, InF g a f -> zgl { c with seek := 1, met := false, at_ := 0, field_ := 0 } a f := fun a f hi => ⟨fun _ => by have := zbt hi.1; show 1 < a; omega, fun q => absurd rfl q⟩
    refine h.col4 hp hp rfl rfl rfl rfl (.inr ⟨_, _, rfl⟩) ⟨z2, fun _ => hl, Int.le_refl _, fun q => absurd rfl q⟩ (fun a f hi ho hw q => ?_) fun a f hi ho hv hvo q => ?_
    · rcases q with ⟨q1, q2, _⟩ | ⟨q, _⟩
      · by_cases e : crN a = c.card
        · exact .inr ⟨by show (1 : Int) ≠ 0; decide, e, nn a f hi⟩
        · refine .inl ⟨(zen z2 hl (zbt hi.1)).2 (by rw [if_neg e]; exact q1), fun z => absurd (show (1 : Int) = 0 from z) (by decide), fun _ => ?_⟩
          have := q2 hs
          show c.card < crN a
          omega
      · exact absurd hs q
    · rcases q with q | ⟨q, _⟩
      · by_cases e : crN a = c.card
        · exact .inr ⟨by show (1 : Int) ≠ 0; decide, e, .inr (nn a f hi)⟩
        · exact .inl ((zen z2 hl (zbt hi.1)).2 (by rw [if_neg e]; exact q))
      · exact absurd hs q
  case skip hm hp h0 hl hs hd =>
    obtain ⟨z1, z2, z3, z4, z5⟩ := h.h.z4 hp
    refine h.col4 hp hp rfl rfl rfl rfl (.inl rfl) ⟨by show 0 <= c.card + 1; omega, fun q => absurd hs q, z4, z5⟩ (fun a f hi ho hw q => ?_) fun a f hi ho hv hvo q => ?_
    · rcases q with ⟨q1, q2, _⟩ | ⟨q, _⟩
      · refine .inl ⟨q1, fun _ => ?_, fun q => absurd hs q⟩
        have := q2 hs
        have ne : crN a ≠ c.card := fun e => by
          unfold Dir at q1
          rw [e, hd] at q1
          cases q1
        show c.card + 1 <= crN a
        omega
      · exact absurd hs q
    · rcases q with q | ⟨q, _⟩
      · exact .inl q
      · exact absurd hs q
  case lost hm hp h0 hl hs ha hf =>
    obtain ⟨z1, z2, z3, z4, z5⟩ := h.h.z4 hp
    have hsa := z5 ha
    have np : ∀ a f, InF g a f -> zgl c a f -> zgl { c with at_ := 0, field_ := 0 } a f := fun a f hi q => by
      refine ⟨fun _ => ?_, fun q => absurd rfl q⟩
      show c.seek < a
      rcases q.2 ha with w | ⟨w1, w2⟩
      · omega
      · exfalso
        obtain ⟨i1, i2, i3⟩ := hi
        rw [w1] at i1 i3
        rcases hf with y | y | y
        · exact y i1
        · omega
        · omega
    refine h.col4 hp hp rfl rfl rfl rfl (.inl rfl) ⟨z2, z3, Int.le_refl _, fun q => absurd rfl q⟩ (fun a f hi ho hw q => ?_) fun a f hi ho hv hvo q => ?_
    · rcases q with q | ⟨q1, q2, q3⟩
      · exact .inl q
      · exact .inr ⟨q1, q2, np a f hi q3⟩
    · rcases q with q | ⟨q1, q2, q3⟩
      · exact .inl q
      · exact .inr ⟨q1, q2, q3.imp id (np a f hi)⟩
  case last hm hp h0 hl hs ha hE hf hn v hv =>
    have hi : InF g c.at_ c.field_ := ⟨hE, hf, by omega⟩
    rw [zg6 hi] at hv
    obtain ⟨z1, z2, z3, z4, z5⟩ := h.h.z4 hp
    have hsa := z5 ha
    rcases zcP g c v with ⟨hy, e⟩ | ⟨hy, e⟩ <;> rw [e]
    · have m := zbz g c v
      obtain ⟨e1, e2, e3, e4, e5⟩ := zcr g c v
      have h1 := h.shade (by omega) (by omega) v
      have nv := zdX g c v
      have mc := (zcw g c v).cards
      generalize hk : zJ g c v = k at *
      generalize hd : zE g c v = d at *
      have p1 : d.phase = 4 := by rw [m.ph]; exact hp
      refine h1.col4 p1 p1 rfl rfl rfl rfl (.inl rfl) ⟨by show 0 <= d.card; omega, fun q => by show d.card < _; rw [mc, e2]; exact hl, Int.le_refl _, fun q => absurd rfl q⟩ (fun a f hi' ho hw q => ?_) fun a f hi' ho hv' hvo q => ?_
      · rcases q with q | ⟨q1, q2, q3⟩
        · exact .inl q
        · refine .inr ⟨q1, q2, fun _ => ?_, fun q => absurd rfl q⟩
          show d.seek < a
          rcases q3.2 (by rw [e3]; exact ha) with w | ⟨w1, w2⟩
          · omega
          · exfalso
            rw [e3] at w1
            have hi2 := m.inF hi'
            have : f = c.field_ := by
              have := hi2.2.2
              rw [w1] at this
              omega
            rw [m.fld _ _ hi2, w1, this, ← hv] at hw
            exact nv hw
      · rcases q with q | ⟨q1, q2, q3⟩
        · exact .inl q
        · exact .inr ⟨q1, q2, .inl rfl⟩
    · refine h.col4 hp hp rfl rfl rfl rfl (.inl rfl) ⟨z2, z3, Int.le_refl _, fun q => absurd rfl q⟩ (fun a f hi' ho hw q => ?_) fun a f hi' ho hv' hvo q => ?_
      all_goals
        have np : zgl c a f -> zgl { c with at_ := 0, field_ := 0 } a f := fun q => by
          refine ⟨fun _ => ?_, fun q => absurd rfl q⟩
          show c.seek < a
          rcases q.2 ha with w | ⟨w1, w2⟩
          · omega
          · exfalso
            have : f = c.field_ := by
              have := hi'.2.2
              rw [w1] at this
              omega
            first
              | (rw [w1, this, ← hv] at hw
                 have y0 := zaK (by omega : atK g c v ≠ 0)
                 unfold zd9 at hy
                 rw [decide_eq_true y0, zil hw z1] at hy
                 cases hy)
              | (rw [w1, this, ← hv] at hv' hvo
                 unfold zd9 at hy
                 rw [decide_eq_true hv', hvo] at hy
                 cases hy)
      · rcases q with q | ⟨q1, q2, q3⟩
        · exact .inl q
        · exact .inr ⟨q1, q2, np q3⟩
      · rcases q with q | ⟨q1, q2, q3⟩
        · exact .inl q
        · exact .inr ⟨q1, q2, q3.imp id np⟩
  case more hm hp h0 hl hs ha hE hf hn v hv =>
    have hi : InF g c.at_ c.field_ := ⟨hE, hf, by omega⟩
    rw [zg6 hi] at hv
    obtain ⟨z1, z2, z3, z4, z5⟩ := h.h.z4 hp
    have hsa := z5 ha
    rcases zcP g c v with ⟨hy, e⟩ | ⟨hy, e⟩ <;> rw [e]
    · have m := zbz g c v
      obtain ⟨e1, e2, e3, e4, e5⟩ := zcr g c v
      have h1 := h.shade (by omega) (by omega) v
      have nv := zdX g c v
      have mc := (zcw g c v).cards
      generalize hk : zJ g c v = k at *
      generalize hd : zE g c v = d at *
      have p1 : d.phase = 4 := by rw [m.ph]; exact hp
      refine h1.col4 p1 p1 rfl rfl rfl rfl (.inl rfl) ⟨by show 0 <= d.card; omega, fun q => by show d.card < _; rw [mc, e2]; exact hl, by show 0 <= c.field_ + 1; omega, fun q => by show d.seek = d.at_; omega⟩ (fun a f hi' ho hw q => ?_) fun a f hi' ho hv' hvo q => ?_
      · rcases q with q | ⟨q1, q2, q3⟩
        · exact .inl q
        · refine .inr ⟨q1, q2, fun q => absurd (e3 ▸ (show d.at_ = 0 from q)) ha, fun _ => ?_⟩
          show d.at_ < a \/ (a = d.at_ /\ c.field_ + 1 <= f)
          rcases q3.2 (by rw [e3]; exact ha) with w | ⟨w1, w2⟩
          · exact .inl w
          · refine .inr ⟨w1, ?_⟩
            have : f ≠ c.field_ := fun ef => by
              have hi2 := m.inF hi'
              rw [m.fld _ _ hi2, w1, ef, e3, ← hv] at hw
              exact nv hw
            omega
      · rcases q with q | ⟨q1, q2, q3⟩
        · exact .inl q
        · exact .inr ⟨q1, q2, .inl rfl⟩
    · refine h.col4 hp hp rfl rfl rfl rfl (.inl rfl) ⟨z2, z3, by show 0 <= c.field_ + 1; omega, z5⟩ (fun a f hi' ho hw q => ?_) fun a f hi' ho hv' hvo q => ?_
      all_goals
        have np : zgl c a f -> zgl { c with field_ := c.field_ + 1 } a f := fun q => by
          refine ⟨fun q => absurd q ha, fun _ => ?_⟩
          show c.at_ < a \/ (a = c.at_ /\ c.field_ + 1 <= f)
          rcases q.2 ha with w | ⟨w1, w2⟩
          · exact .inl w
          · refine .inr ⟨w1, ?_⟩
            have : f ≠ c.field_ := fun this => by
              first
                | (rw [w1, this, ← hv] at hw
                   have y0 := zaK (by omega : atK g c v ≠ 0)
                   unfold zd9 at hy
                   rw [decide_eq_true y0, zil hw z1] at hy
                   cases hy)
                | (rw [w1, this, ← hv] at hv' hvo
                   unfold zd9 at hy
                   rw [decide_eq_true hv', hvo] at hy
                   cases hy)
            omega
      · rcases q with q | ⟨q1, q2, q3⟩
        · exact .inl q
        · exact .inr ⟨q1, q2, np q3⟩
      · rcases q with q | ⟨q1, q2, q3⟩
        · exact .inl q
        · exact .inr ⟨q1, q2, q3.imp id np⟩
  case next hm hp h0 hl hs ha a0 hn =>
    obtain ⟨z1, z2, z3, z4, z5⟩ := h.h.z4 hp
    obtain ⟨n1, n2, n3, n4⟩ := zsl hn
    obtain ⟨y1, y2, y3⟩ := (zos h0 hl).1 n1
    have hpos := zbt y1
    have np : ∀ a f, InF g a f -> (headH g a).old = true -> crN a = c.card -> zgl c a f -> zgl { c with at_ := a0, field_ := 0, seek := a0 } a f := fun a f hi ho hcr q => by
      refine ⟨fun z => by have : a0 = 0 := z; omega, fun _ => ?_⟩
      show a0 < a \/ (a = a0 /\ 0 <= f)
      have := q.1 ha
      have := zbt hi.1
      have := n4 a ((zos h0 hl).2 ⟨hi.1, by unfold crN at hcr; omega, by unfold crN at hcr; omega⟩) (by assumption) ho
      have := hi.2.1
      omega
    refine h.col4 hp hp rfl rfl rfl rfl (.inl rfl) ⟨z2, fun _ => hl, Int.le_refl _, fun _ => rfl⟩ (fun a f hi ho hw q => ?_) fun a f hi ho hv hvo q => ?_
    · rcases q with ⟨q1, q2, q3⟩ | ⟨q1, q2, q3⟩
      · exact .inl ⟨q1, fun z => by have : a0 = 0 := z; omega, fun _ => q3 hs⟩
      · exact .inr ⟨by show a0 ≠ 0; omega, q2, np a f hi ho q2 q3⟩
    · rcases q with q | ⟨q1, q2, q3⟩
      · exact .inl q
      · exact .inr ⟨by show a0 ≠ 0; omega, q2, q3.imp id (np a f hi ho q2)⟩
  case done hm hp h0 hl hs ha hn =>
    obtain ⟨z1, z2, z3, z4, z5⟩ := h.h.z4 hp
    have nn := zsB hn
    have no : ∀ a f, InF g a f -> (headH g a).old = true -> crN a = c.card -> ¬ zgl c a f := fun a f hi ho hcr q => by
      have := zbt hi.1
      exact nn a ((zos h0 hl).2 ⟨hi.1, by unfold crN at hcr; omega, by unfold crN at hcr; omega⟩) (q.1 ha) ho
    have dk : ∀ a, headE g a = 0 -> Dir g a -> Dir (if c.met = true then cset g c.card true else g) a := fun a h0' q => by
      split
      · refine (zen z2 hl (zbt h0')).2 ?_
        split
        · rfl
        · exact q
      · exact q
    refine h.col4 hp hp rfl rfl rfl rfl ?_ ⟨by show 0 <= c.card + 1; omega, fun q => absurd rfl q, z4, fun q => absurd ha q⟩ (fun a f hi ho hw q => ?_) fun a f hi ho hv hvo q => ?_
    · split
      · exact .inr ⟨_, _, rfl⟩
      · exact .inl rfl
    · rcases q with ⟨q1, q2, q3⟩ | ⟨q1, q2, q3⟩
      · exact .inl ⟨dk a hi.1 q1, fun _ => by have := q3 hs; show c.card + 1 <= crN a; omega, fun z => absurd rfl z⟩
      · exact absurd q3 (no a f hi ho q2)
    · refine .inl ?_
      rcases q with q | ⟨q1, q2, q3⟩
      · exact dk a hi.1 q
      · rcases q3 with q3 | q3
        · rw [if_pos q3]
          refine (zen z2 hl (zbt hi.1)).2 ?_
          rw [if_pos q2]
        · exact absurd q3 (no a f hi ho q2)
theorem znJ {g:Hp} {c:Col} {u:Int} (hc:za1 c=true) (h:headE g u=0):atK g c u=1↔zbF g c u=1:=by
 obtain⟨_,_,m3,_,m5,_⟩:=zdy hc
 rw[zbC h,zaL.1]
 unfold zbF
 constructor
 ·rintro⟨⟨h1,_⟩,h2⟩
  rw[if_neg,if_pos h2]
  rintro (q|⟨q1,q2⟩)
  ·exact q h
  ·rcases h1 with k|k
   ·rw[q1]at k;cases k
   ·rw[q2]at k;cases k
 ·intro q
  split at q
  ·cases q
  ·rename_i n
   split at q
   ·rename_i m
    refine⟨⟨?_,m3,m5⟩,m⟩
    cases ho:(headH g u).old with
    |false=>exact .inl rfl
    |true=>
     cases hm:c.major with
     |true=>exact .inr rfl
     |false=>exact absurd (.inr ⟨ho,hm⟩) n
   ·split at q<;>cases q
theorem zym {g:Hp} {c:Col} {u:Int} (h:zbF g c u=2):headE g u=0/\(headH g u).old=false/\c.epoch<=(headH g u).mark:=by
 unfold zbF at h
 split at h
 ·cases h
 ·rename_i n
  split at h
  ·cases h
  ·split at h
   ·rename_i m q
    exact⟨Classical.byContradiction fun z=>n (.inl z),q.1,by omega⟩
   ·cases h
theorem InW.col6 {g:Hp} {c d:Col} {ts:List Thread} (h:InW g c ts) (p:c.phase=6) (ph:d.phase=6) (ep:d.epoch=c.epoch) (mj:d.major=c.major)
  (w6:∀u,atK g c u=1->d.seek<u) (m6:d.met=true->headE g d.seek=0/\Dir g d.seek):InW g d ts:=by
 have kk:∀u,atK g d u=atK g c u:=fun u=>zbW ep mj g u
 refine⟨⟨fun a f hi hn=>h.h.d a f hi (by rw[kk]at hn;rw[p];rw[ph]at hn;exact hn),fun _ u=>by rw[kk];exact h.h.g6 p u,fun _ u q=>w6 u (by rw[←kk];exact q),fun _ a f hi q=>by rw[kk]at q ⊢;exact h.h.f6 p a f hi q,fun _=>m6,fun _ q=>by omega,fun _ q=>by omega,fun _ q=>by omega,fun _ q=>by omega,fun q=>by omega,fun q=>by omega,fun q=>by omega,fun q=>by omega⟩,
  fun t ht hl=>(h.t t ht hl).mono (zpt ep mj (by omega)),⟨fun _ q=>by omega,fun q=>by omega,fun a f hi ho hn hv hvo=>?_⟩⟩
 rcases h.j.j a f hi ho (by rw[kk,mj,ph]at hn;rw[p];exact hn) hv hvo with q|q|q
 ·exact .inl q
 ·exact .inr (.inl q)
 ·omega
theorem InW.sweep {g k:Hp} {c d:Col} {ts:List Thread} (h:InW g c ts) (s:SwStep g c k d) (hc:za1 c=true) {cs:List Lists} (hw:zt g cs=true):InW k d ts:=by
 obtain⟨_,_,m3,_,m5,_⟩:=zdy hc
 cases s
 case idle=>exact h
 case pass hm hp hmet hf=>exact h.col6 hp hp rfl rfl (h.h.w6 hp) fun q=>by cases q
 case stay hm hp hmet hn hl hq hf=>
  refine h.col6 hp hp rfl rfl (fun u q=>?_) fun q=>?_
  ·have h0:=zaK (by omega:atK g c u≠0)
   have:=hq u (zn.2 (zG h0).2.1) (h.h.w6 hp u q)
   have:u≠zO g.pages c.seek:=fun e=>by
    have:=(znJ hc h0).1 q
    rw[e,hf]at this;cases this
   show zO g.pages c.seek<u
   omega
  ·have:c.met=true:=q
   rw[hmet]at this;cases this
 case done hm hp hmet hn=>
  have nw:∀u,atK g c u≠1:=fun u q=>by
   have:=h.h.w6 hp u q
   have:=hn u (zn.2 (zG (zaK (by omega:atK g c u≠0))).2.1)
   omega
  obtain⟨d,hd⟩:∃d:Col,d=⟨0,c.epoch,c.major,[],false,0,0,0,0,false⟩:=⟨_,rfl⟩
  rw[←hd]
  have ph:d.phase=0:=by rw[hd]
  clear hd
  refine⟨⟨fun a f hi _=>h.h.d a f hi fun q=>nw a q.2,fun q=>by omega,fun q=>by omega,fun q=>by omega,fun q=>by omega,fun q=>by omega,fun q=>by omega,fun q=>by omega,fun q=>by omega,fun q=>by omega,fun q=>by omega,fun q=>by omega,fun q=>by omega⟩,
   fun t ht hl=>⟨(h.t t ht hl).d,(h.t t ht hl).z,fun q=>by omega,fun q=>by omega,fun q=>by omega,fun q=>by omega,fun q=>by omega⟩,⟨fun q=>by omega,fun q=>by omega,fun a f hi ho hn hv hvo=>?_⟩⟩
  rcases h.j.j a f hi ho (fun q=>nw a q.2.2) hv hvo with q|q|q
  ·exact .inl q
  ·exact .inr (.inl q)
  ·omega
 case dirty hm hp hmet hn hl hq hf h0 hcd=>
  rw[zed hcd]
  obtain⟨c1,c2⟩:=znk h0
  have h1:=h.dirty (n:=crN (zO g.pages c.seek)) c1 c2
  have kk:∀u,atK (cset g (crN (zO g.pages c.seek)) true) c u=atK g c u:=fun u=>zbH (za4 _ _ _ u) (zbP _ _ _ u) c
  refine h1.col6 hp hp rfl rfl (fun u q=>?_) fun _=>⟨by rw[za4];exact h0,(zen c1 c2 (zbt h0)).2 (by rw[if_pos rfl])⟩
  rw[kk]at q
  have hu:=zaK (by omega:atK g c u≠0)
  have:=hq u (zn.2 (zG hu).2.1) (h.h.w6 hp u q)
  have:u≠zO g.pages c.seek:=fun e=>by
   have:=(znJ hc hu).1 q
   rw[e,hf]at this;cases this
  show zO g.pages c.seek<u
  omega
 case old hm hp hmet hf h0 p=>
  obtain⟨_,fo,fm⟩:=zym hf
  have ks:atK g c c.seek=3:=by
   have n1:atK g c c.seek≠1:=fun q=>by
    have:=(znJ hc h0).1 q
    rw[hf]at this;cases this
   have n2:=h.h.g6 hp c.seek
   have n0:atK g c c.seek≠0:=fun q=>by
    have:=(znG q h0 ⟨m3,m5⟩).1
    rw[fo]at this;cases this
   rcases ztq g c c.seek with q|q|q|q
   ·exact absurd q n0
   ·exact absurd q n1
   ·exact absurd q n2
   ·exact q
  have ph:=fun u=>ziB p u
  obtain⟨k,hk⟩:∃k,k=zbT g c.seek (zhl g c.seek).word:=⟨_,rfl⟩
  rw[←hk]at ph ⊢
  have hE:∀u,headE k u=headE g u:=fun u=>(ph u).1
  have hH:∀u,headH k u=if u=c.seek then zhl g c.seek else headH g u:=fun u=>(ph u).2
  have ka:atK k c c.seek=0\/atK k c c.seek=3:=by
   rw[zbC (by rw[hE];exact h0),hH,if_pos rfl]
   rw[zbC h0]at ks
   obtain⟨_,k2,k3⟩:=zaL.2.2.1 ks
   cases hmj:c.major with
   |true=>exact .inr (zaL.2.2.2 ⟨⟨.inr hmj,m3,m5⟩,k2,k3⟩)
   |false=>
    refine .inl ?_
    show za3 c {headH g c.seek with old:=true}=0
    unfold za3
    rw[hmj];rfl
  have kk:∀u,u≠c.seek->atK k c u=atK g c u:=fun u hu=>zbH (hE u) (by rw[hH,if_neg hu]) c
  have k1:∀u,atK k c u=1↔atK g c u=1:=fun u=>by
   by_cases e:u=c.seek
   ·rw[e];omega
   ·rw[kk u e]
  have hn:∀u,(headH k u).n=(headH g u).n:=fun u=>by
   rw[hH]
   split
   ·rename_i e;rw[e]
   ·rfl
  have iF:∀ {a f},InF k a f->InF g a f:=fun hi=>⟨by rw[←hE];exact hi.1,hi.2.1,by rw[←hn];exact hi.2.2⟩
  have hF:∀ {a f},InF g a f->fv k a f=fv g a f:=fun {a f} hi=>by
   rw[hk]
   have hm0:=zbr (zal hw)
   have n1:=(zar hi.1).2.2.1
   have:=zvy (v:=(zhl g c.seek).word) hm0 (zG h0).2.1 (zG hi.1).2.1 (f:=1+f) ⟨by have:=hi.2.1;omega,by have:=hi.2.2;omega⟩
   show zf _ (a+1+f)=zf g (a+1+f)
   rw[show a+1+f=a+(1+f) by omega];exact this
  have rf:∀ {v},Ref g v->Ref k v:=fun hv=>hv.imp id fun q=>by rw[hE];exact q
  have kc:k.cards=g.cards:=by rw[hk];rfl
  have dir:∀a,Dir k a↔Dir g a:=fun a=>by unfold Dir;rw[kc]
  have h1:InW k c ts:=by
   refine⟨⟨fun a f hi hn'=>?_,fun _ u=>?_,fun _ u q=>h.h.w6 hp u ((k1 u).1 q),fun _ a f hi q=>?_,fun _ q=>?_,fun _ q=>by omega,fun _ q=>by omega,fun _ q=>by omega,fun _ q=>by omega,fun q=>by omega,fun q=>by omega,fun q=>by omega,fun q=>by omega⟩,
    fun t ht hl=>⟨fun v hv=>rf ((h.t t ht hl).d v hv),(h.t t ht hl).z,fun _ v hv q=>(h.t t ht hl).s6 hp v hv ((k1 v).1 q),fun _ q=>by omega,fun _ q=>by omega,fun _ q=>by omega,fun _ q=>by omega⟩,⟨fun _ q=>by omega,fun q=>by omega,fun a f hi ho hn' hv hvo=>?_⟩⟩
   ·rw[hF (iF hi)]
    exact rf (h.h.d a f (iF hi) fun q=>hn' ⟨q.1,(k1 a).2 q.2⟩)
   ·by_cases e:u=c.seek
    ·rw[e];omega
    ·rw[kk u e];exact h.h.g6 hp u
   ·rw[hF (iF hi)]
    intro z
    exact h.h.f6 hp a f (iF hi) (fun y=>q ((k1 a).2 y)) ((k1 _).1 z)
   ·obtain⟨y1,y2⟩:=h.h.m6 hp q
    exact⟨by rw[hE];exact y1,(dir _).2 y2⟩
   ·have hi':=iF hi
    rw[hF hi']at hv hvo
    rw[hE]at hv
    have hvo' : (headH g (fv g a f)).old=false:=by
     rw[hH]at hvo
     split at hvo
     ·cases hvo
     ·exact hvo
    by_cases e:a=c.seek
    ·rw[e]
     exact .inl ((dir _).2 (h.h.m6 hp hmet).2)
    ·rw[hH,if_neg e]at ho
     rcases h.j.j a f hi' ho (fun q=>hn' ⟨q.1,q.2.1,(k1 a).2 q.2.2⟩) hv hvo' with q|q|q
     ·exact .inl ((dir a).2 q)
     ·exact .inr (.inl q)
     ·omega
  exact h1.col6 hp hp rfl rfl (h1.h.w6 hp) fun q=>by cases q
 case free hm hp hmet hn hl hq hf h0=>
  have f:=zv8 (zal hw) h0
  have hd:=fun u=>f.head u
  have kw:=(znJ hc h0).2 hf
  generalize ha:zO g.pages c.seek=a0 at *
  obtain⟨k,hk⟩:∃k,k=zfP g a0:=⟨_,rfl⟩
  rw[←hk]at f hd ⊢
  have km:=zbr f.may
  have hE:∀u,u≠a0->headE k u=headE g u:=fun u hu=>by
   by_cases q:headE g u=0
   ·rw[q];exact(hd u).1.2 ⟨q,hu⟩
   ·rcases zgW km u with z|z
    ·exact absurd ((hd u).1.1 z).1 q
    ·rcases zgW (zbr (zal hw)) u with y|y
     ·exact absurd y q
     ·rw[z,y]
  have hH:∀u,headE k u=0->headH k u=headH g u:=fun u=>(hd u).2
  have ob:∀u,headE k u=0->headE g u=0/\u≠a0:=fun u=>(hd u).1.1
  have kk:∀u,u≠a0->atK k c u=atK g c u:=fun u hu=>by
   by_cases q:headE g u=0
   ·exact zbH (hE u hu) (hH u (by rw[hE u hu];exact q)) c
   ·rw[zeR q,zeR (by rw[hE u hu];exact q)]
  have ka:atK k c a0=0:=zeR fun q=>(ob a0 q).2 rfl
  have k1:∀u,atK k c u=1->u≠a0/\atK g c u=1:=fun u q=>by
   have e:u≠a0:=fun e=>by rw[e,ka]at q;cases q
   rw[kk u e]at q
   exact⟨e,q⟩
  have iF:∀ {a f},InF k a f->a≠a0/\InF g a f/\fv k a f=fv g a f:=fun {a q} hi=>by
   obtain⟨e1,e2⟩:=ob a hi.1
   have hi' : InF g a q:=⟨e1,hi.2.1,by rw[←hH a hi.1];exact hi.2.2⟩
   exact⟨e2,hi',zko hi' fun x x0 x1=>f.word a e2 (zG e1).2.1 x x0 x1⟩
  have nw:∀v,atK g c v≠1->v≠a0:=fun v hv e=>hv (e▸kw)
  have rf:∀ {v},Ref g v->v≠a0->Ref k v:=fun hv hne=>hv.imp id fun q=>by rw[hE _ hne];exact q
  have dir:∀a,Dir k a↔Dir g a:=fun a=>by unfold Dir;rw[f.cards]
  have fk:∀ {a f},InF k a f->atK k c a≠1->atK g c (fv g a f)≠1:=fun {a q} hi hka=>by
   obtain⟨i1,i2,i3⟩:=iF hi
   rw[kk a i1]at hka
   exact h.h.f6 hp a q i2 hka
  refine⟨⟨fun a q hi hn'=>?_,fun _ u=>?_,fun _ u q=>?_,fun _ a q hi hka=>?_,fun _ q=>?_,fun _ q=>?_,fun _ q=>?_,fun _ q=>?_,fun _ q=>?_,fun q=>?_,fun q=>?_,fun q=>?_,fun q=>?_⟩,
   fun t ht hl=>⟨fun v hv=>rf ((h.t t ht hl).d v hv) (nw v ((h.t t ht hl).s6 hp v hv)),(h.t t ht hl).z,fun _ v hv q=>(h.t t ht hl).s6 hp v hv (k1 v q).2,fun _ q=>?_,fun _ q=>?_,fun _ q=>?_,fun _ q=>?_⟩,⟨fun _ q=>?_,fun q=>?_,fun a q hi ho hn' hv hvo=>?_⟩⟩
  ·obtain⟨i1,i2,i3⟩:=iF hi
   have hka:atK k c a≠1:=fun z=>hn' ⟨hp,z⟩
   have y:=fk hi hka
   rw[i3]
   refine rf (h.h.d a q i2 fun z=>?_) (nw _ y)
   rw[kk a i1]at hka
   exact hka z.2
  ·show atK k c u≠2
   by_cases e:u=a0
   ·rw[e,ka];decide
   ·rw[kk u e];exact h.h.g6 hp u
  ·obtain⟨e,q⟩:=k1 u q
   have hu:=zaK (by omega:atK g c u≠0)
   have:=hq u (zn.2 (zG hu).2.1) (h.h.w6 hp u q)
   show a0<u
   omega
  ·obtain⟨i1,i2,i3⟩:=iF hi
   rw[i3]
   intro z
   exact fk hi hka (k1 _ z).2
  ·have:c.met=true:=q
   rw[hmet]at this;cases this
  all_goals first
   |(have q:c.phase<=5:=q;omega)
   |(have q:c.phase<=3:=q;omega)
   |(have q:c.phase<=2:=q;omega)
   |(have q:c.phase=5:=q;omega)
   |(have q:c.phase=4:=q;omega)
   |skip
  obtain⟨i1,i2,i3⟩:=iF hi
  rw[i3]at hv hvo
  rw[hH _ hv]at hvo
  rw[hH _ hi.1]at ho
  rcases h.j.j a q i2 ho (fun z=>hn' ⟨z.1,z.2.1,by show atK k c a=1;rw[kk a i1];exact z.2.2⟩) (ob _ hv).1 hvo with z|z|z
  ·exact .inl ((dir a).2 z)
  ·exact .inr (.inl z)
  ·omega
end Go.Abs
