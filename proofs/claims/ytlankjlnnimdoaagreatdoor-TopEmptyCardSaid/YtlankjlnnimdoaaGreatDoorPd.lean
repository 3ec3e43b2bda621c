/- Walks and plain laws: WFreeN, WReap, WPages, WAllocK. -/
import Derived.Test.YtlankjlnnimdoaaGreatDoorPc
set_option linter.all false
namespace Go.Abs
set_option maxRecDepth 8000
def zbm (g:Hp) (a:Int):List Int:=zK g.w (a-16).toNat (List.replicate (ze g.pages a).toNat (0:Int))
def pgI (a:Int):Int:=a / 16-1
def zeR (g:Hp) (i:Int):List Int:=zcG (g.free.at_ (g.pages.getD i.toNat default).arg) (16*(i+1)) (16*(i+1)+16) (g.free.at_ (g.pages.getD i.toNat default).arg).length
def zdP (g:Hp) (i:Int):List Int:=zbu (g.free.at_ (g.pages.getD i.toNat default).arg) (16*(i+1)) (16*(i+1)+16) (g.free.at_ (g.pages.getD i.toNat default).arg).length
def zcb (g:Hp) (i:Int):Hp:=if ((zeR g i).length:Int)=zfg (g.pages.getD i.toNat default).arg then {g with free:=g.free.set_ (g.pages.getD i.toNat default).arg (zdP g i),pages:=zam g.pages i.toNat} else g
def znP (g:Hp) (i a:Int):Hp:={g with free:=g.free.set_ (g.pages.getD i.toNat default).arg (g.free.at_ (g.pages.getD i.toNat default).arg++[a])}
def zdU (g:Hp) (a:Int):Hp:=if headE g a=0 then (if (g.pages.getD (pgI a).toNat default).kind=2 then {g with w:=zbm g a,pages:=zam g.pages (pgI a).toNat} else zcb (znP {g with w:=zbm g a} (pgI a) a) (pgI a)) else Hp.zero
theorem zfK:∀ {l m:List Int},l.Nodup->(∀x∈l,x∈m)->l.length<=m.length
 |[],_,_,_=>Nat.zero_le _
 |x::l,m,h,hs=>by
  rw[List.nodup_cons]at h
  have hx:=hs x (List.mem_cons_self ..)
  have:=zfK (m:=m.erase x) h.2 fun y hy=>(List.mem_erase_of_ne (fun e:y=x=>h.1 (e▸hy))).2 (hs y (List.mem_cons_of_mem _ hy))
  rw[List.length_erase_of_mem hx]at this
  have:=List.length_pos_of_mem hx
  simp;omega
theorem znO {g:Hp} (h:zx g []=true):(zn [g.free]).length<=512:=by
 obtain⟨h1,h2,h3,h4⟩:=zai h
 refine Nat.le_trans (zfK h4 (m:=cellStarts g.pages) fun x hx=>?_) (by unfold cellStarts;rw[List.length_map];exact zge _)
 obtain⟨l,hl,hx⟩:=zcM.1 hx
 exact zw.2 (by have:=(zdI (h2 l hl) hx).1;omega)
theorem zlH {g:Hp} (h:zx g []=true) (c:Int):(g.free.at_ c).length<=512:=by
 have:=znO h
 unfold zn Lists.flat at this
 simp at this
 unfold Lists.at_
 split
 ·omega
 ·split<;>omega
theorem zdj {g:Hp} {a:Int} (h:headE g a=0):0<=pgI a/\Drops g.pages (pgI a).toNat:=by
 obtain⟨hm,hr,_⟩:=zU h
 obtain⟨hmp,j,hj⟩:=zap (zz hr)
 have e:pgI a=(j:Int):=hj.div
 rw[e]
 refine⟨by omega,hmp,hj.lt,?_⟩
 rcases hj.kind with h|h
 ·exact .inl h.1
 ·exact .inr h.1
theorem za4 {g:Hp} {a:Int} (h:headE g a=0):zbo g.w=true/\16<=a/\0<ze g.pages a/\a+ze g.pages a<=16+g.w.length:=by
 obtain⟨hm,hr,_⟩:=zU h
 obtain⟨hmw,hmp,hlen,_⟩:=zl (zA hm)
 obtain⟨_,j,hj⟩:=zap (zz hr)
 obtain⟨_,hd⟩:=zdj h
 have e:(pgI a).toNat=j:=by have:=hj.div;unfold pgI;omega
 rw[e]at hd
 have h1:=hj.lo
 have h2:=hj.hi
 have h3:=hj.lt
 have hb:=hd.all.1
 refine⟨hmw,by omega,hj.pos,?_⟩
 rcases hj.kind with⟨k1,k2,k3,k4,k5⟩|⟨k1,k2,k3,k4,k5⟩
 ·have:a+ze g.pages a<=16*((j:Int)+2):=k4
  omega
 ·have k4:a=16*((j:Int)+1):=k4
  have k5:ze g.pages a=(g.pages.getD j default).arg*16:=k5
  unfold sizeP at hb
  rw[if_pos k1]at hb
  omega
theorem zfC {g:Hp} {a:Int} (h:headE g a=0):(zbm g a).length=g.w.length:=by
 obtain⟨_,z2,z3,z4⟩:=za4 h
 unfold zbm zK
 simp
 omega
theorem zy0 {l m:List Int} (h:l.Nodup) (hs:∀x∈l,x∈m) (hl:m.length<=l.length):∀y∈m,y∈l:=by
 intro y hy
 apply Classical.byContradiction
 intro hn
 have:=zfK (m:=m.erase y) h fun x hx=>(List.mem_erase_of_ne (fun e:x=y=>hn (e▸hx))).2 (hs x hx)
 rw[List.length_erase_of_mem hy]at this
 have:=List.length_pos_of_mem hy
 omega
theorem zcd {g:Hp} {cs:List Lists} (h:zx g cs=true):zx g []=true:=by
 obtain⟨h1,h2,h3,h4⟩:=zai h
 refine zdr h1 (fun l hl=>h2 l ?_) h3 ?_
 ·rw[List.mem_singleton.1 hl];exact List.mem_cons_self ..
 ·have e:zn (g.free::cs)=zn [g.free]++zn cs:=by unfold zn;simp
  rw[e]at h4
  exact(List.nodup_append.1 h4).1
theorem zF {h:Hp} {l:Lists}:zaf h l=true↔∀d:Int,0<=d->d<=2->∀x∈l.at_ d,zau h d x=true:=by
 unfold zaf
 simp only[Bool.and_eq_true,List.all_eq_true]
 constructor
 ·rintro⟨h0,h1,h2⟩ d hd0 hd2 x hx
  have:d=0\/d=1\/d=2:=by omega
  rcases this with rfl|rfl|rfl
  ·exact h0 x hx
  ·exact h1 x hx
  ·exact h2 x hx
 ·intro h
  exact⟨h 0 (by omega) (by omega),h 1 (by omega) (by omega),h 2 (by omega) (by omega)⟩
theorem zbq {l:Lists} {x:Int}:x∈l.flat↔∃d:Int,0<=d/\d<=2/\x∈l.at_ d:=by
 unfold Lists.flat
 simp only[List.mem_append]
 constructor
 ·rintro ((h|h)|h)
  ·exact⟨0,by omega,by omega,h⟩
  ·exact⟨1,by omega,by omega,h⟩
  ·exact⟨2,by omega,by omega,h⟩
 ·rintro⟨d,h1,h2,h⟩
  have:d=0\/d=1\/d=2:=by omega
  rcases this with rfl|rfl|rfl
  ·exact .inl (.inl h)
  ·exact .inl (.inr h)
  ·exact .inr h
theorem ze9 {l:Lists} {c d:Int} {x:List Int} (hc:0<=c/\c<=2) (hd:0<=d/\d<=2):(l.set_ c x).at_ d=if d=c then x else l.at_ d:=by
 have h1:c=0\/c=1\/c=2:=by omega
 have h2:d=0\/d=1\/d=2:=by omega
 rcases h1 with rfl|rfl|rfl<;>rcases h2 with rfl|rfl|rfl<;>rfl
theorem zx9 {l:Lists} {c:Int} {x:List Int} (hc:0<=c/\c<=2) (h:x.Sublist (l.at_ c)):(l.set_ c x).flat.Sublist l.flat:=by
 have h1:c=0\/c=1\/c=2:=by omega
 rcases h1 with rfl|rfl|rfl
 ·exact(List.Sublist.append (List.Sublist.append h (List.Sublist.refl _)) (List.Sublist.refl _))
 ·exact(List.Sublist.append (List.Sublist.append (List.Sublist.refl _) h) (List.Sublist.refl _))
 ·exact(List.Sublist.append (List.Sublist.append (List.Sublist.refl _) (List.Sublist.refl _)) h)
theorem zqb {l:Lists} {c a:Int} (hc:0<=c/\c<=2):(l.set_ c (l.at_ c++[a])).flat.Perm (a::l.flat):=by
 have h1:c=0\/c=1\/c=2:=by omega
 rcases h1 with rfl|rfl|rfl
 ·show((l.l0++[a])++l.l1++l.l2).Perm (a::(l.l0++l.l1++l.l2))
  simp only[List.append_assoc,List.singleton_append]
  exact List.perm_middle
 ·show((l.l0++(l.l1++[a]))++l.l2).Perm (a::(l.l0++l.l1++l.l2))
  simp only[List.append_assoc,List.singleton_append]
  rw[←List.append_assoc,←List.append_assoc]
  exact List.perm_middle
 ·show(l.l0++l.l1++(l.l2++[a])).Perm (a::(l.l0++l.l1++l.l2))
  rw[←List.append_assoc]
  exact List.perm_append_singleton _ _
theorem zas {l:List Page} {x:Int×Int} (h:x∈cellsAll l):16<=x.1/\0<x.2/\x.1+x.2<=16*((l.length:Int)+1):=by
 obtain⟨hmp,j,hj⟩:=zap h
 have h1:=hj.lo
 have h2:=hj.hi
 have h3:=hj.lt
 refine⟨by omega,hj.pos,?_⟩
 rcases hj.kind with⟨k1,k2,k3,k4,k5⟩|⟨k1,k2,k3,k4,k5⟩
 ·omega
 ·have hb:=(Drops.all ⟨hmp,h3,.inr k1⟩).1
  unfold sizeP at hb
  rw[if_pos k1]at hb
  omega
theorem zmz {l:List Page} {x y:Int×Int} (hx:x∈cellsAll l) (hy:y∈cellsAll l) {p:Int} (h1:x.1<=p/\p<x.1+x.2) (h2:y.1<=p/\p<y.1+y.2):x=y:=by
 obtain⟨hmp,_⟩:=zap hx
 obtain⟨e1,_,e3⟩:=zas hx
 have ht:=zzb l 0 0 (by unfold zar at hmp;rw[Bool.and_eq_true]at hmp;exact hmp.1) (Int.le_refl _) (fun p hp=>by
  obtain⟨i,hi,e⟩:=List.mem_iff_getElem.1 hp
  have:=(zab hmp).1 i hi
  rw[List.getD_eq_getElem?_getD,List.getElem?_eq_getElem hi]at this
  rw[←e];exact this) p (by omega) (by omega)
 have e0:cellsAll l=zbs 0 l:=by
  unfold cellsAll
  rw[if_pos hmp,zdz l _ 0 rfl]
  rfl
 rw[←e0]at ht
 have hc:((cellsAll l).filter (zeA p)).length<=1:=by unfold cnt at ht;omega
 have m1:x∈(cellsAll l).filter (zeA p):=List.mem_filter.2 ⟨hx,decide_eq_true h1⟩
 have m2:y∈(cellsAll l).filter (zeA p):=List.mem_filter.2 ⟨hy,decide_eq_true h2⟩
 generalize (cellsAll l).filter (zeA p)=L at hc m1 m2
 match L,hc,m1,m2 with
 |[],_,m1,_=>cases m1
 |[z],_,m1,m2=>rw[List.mem_singleton.1 m1,List.mem_singleton.1 m2]
 |_::_::_,hc,_,_=>simp at hc
theorem zwk {l:List Page} {a u f:Int} (ha:ze l a≠0) (hu:ze l u≠0) (hne:u≠a) (hf:0<=f/\f<ze l u):¬(a<=u+f/\u+f<a+ze l a):=by
 intro h
 have:=zmz (zz ha) (zz hu) (p:=u+f) h ⟨by show u<=_;omega,by show _<u+_;omega⟩
 exact hne (congrArg Prod.fst this).symm
theorem zkf {g:Hp} {a u:Int} (h:headE g a=0) (hu:16<=u) (p:List Page) (f:Lists) (cd:List Bool):zf ⟨zbm g a,p,f,cd⟩ u=if a<=u/\u<a+ze g.pages a then 0 else zf g u:=by
 obtain⟨_,z2,z3,z4⟩:=za4 h
 show at0 (zbm g a) (u-16).toNat=_
 unfold zbm zK zf
 rw[zhs,zhs]
 simp only[List.length_append,List.length_take,List.length_replicate]
 by_cases c1:u<a
 ·rw[if_pos (by omega),if_pos (by omega),if_neg (by omega),zjd _ _ _ (by omega)]
 ·by_cases c2:u<a+ze g.pages a
  ·rw[if_pos (by omega),if_neg (by omega),if_pos ⟨by omega,c2⟩]
   unfold at0
   rw[List.getD_eq_getElem?_getD,List.getElem?_replicate]
   split<;>rfl
  ·rw[if_neg (by omega),if_neg (by omega),zi9]
   congr 1
   omega
theorem zoz {g:Hp} {a u f:Int} (h:headE g a=0) (hu:ze g.pages u≠0) (hne:u≠a) (hf:0<=f/\f<ze g.pages u) (p:List Page) (fr:Lists) (cd:List Bool):zf ⟨zbm g a,p,fr,cd⟩ (u+f)=zf g (u+f):=by
 rw[zkf h (by have:=(zas (zz hu)).1;have:16<=u:=this;omega),if_neg (zwk (zU h).2.1 hu hne hf)]
theorem zek {g:Hp} {a u:Int} (h:headE g a=0) (hu:ze g.pages u≠0) (hne:u≠a) (p:List Page) (fr:Lists) (cd:List Bool):zf ⟨zbm g a,p,fr,cd⟩ u=zf g u:=by
 have:=zoz h hu hne (f:=0) ⟨Int.le_refl _,by have:=(zas (zz hu)).2.1;exact this⟩ p fr cd
 rwa [Int.add_zero]at this
theorem zhq {g:Hp} {a:Int} (h:headE g a=0) (p:List Page) (fr:Lists) (cd:List Bool):zf ⟨zbm g a,p,fr,cd⟩ a=0:=by
 obtain⟨_,z2,z3,z4⟩:=za4 h
 rw[zkf h z2,if_pos ⟨Int.le_refl _,by omega⟩]
theorem zf1 {l:List Page} {u:Int} (h:u∈cellStarts l):∃j:Nat,CellOf l (u,ze l u) j/\u / 16-1=(j:Int):=by
 obtain⟨_,j,hj⟩:=zap (zz (zw.1 h))
 exact⟨j,hj,hj.div⟩
theorem znl {h:Hp} {i:Nat} (hd:Drops h.pages i) {u:Int} (hu:u∈cellStarts h.pages) (hi:u / 16-1≠(i:Int)) (w:List Int) (F:Lists) (cd:List Bool):zO ⟨w,zam h.pages i,F,cd⟩ u=zO h u:=by
 obtain⟨j,hj,e⟩:=zf1 hu
 unfold zO
 show(zam h.pages i).getD (u / 16-1).toNat default=_
 rw[e,Int.toNat_natCast]
 refine hd.keep (by omega) ?_
 rcases hj.kind with k|k<;>omega
theorem zmh {h:Hp} {i:Nat} {F:Lists} {cs:List Lists} (hs:zC h=true) (hd:Drops h.pages i) (hz:∀u∈cellStarts h.pages,u / 16-1=(i:Int)->zf h u=0)
  (hl:∀l∈F::cs,∀d:Int,0<=d->d<=2->∀x∈l.at_ d,zau h d x=true/\x / 16-1≠(i:Int)) (hc:∀u∈cellStarts h.pages,u / 16-1≠(i:Int)->zaC h u=true) (hn:(zn (F::cs)).Nodup) :
  zx ⟨h.w,zam h.pages i,F,h.cards⟩ cs=true/\((∀u∈cellStarts h.pages,u / 16-1≠(i:Int)->zf h u≠0\/u∈zn (F::cs))->zq ⟨h.w,zam h.pages i,F,h.cards⟩ cs=true) /\
  zu ⟨h.w,zam h.pages i,F,h.cards⟩=(cellStarts h.pages).filter fun u=>zf h u != 0:=by
 have hw:∀u,zf ⟨h.w,zam h.pages i,F,h.cards⟩ u=zf h u:=fun _=>rfl
 have hst:∀u,u∈cellStarts (zam h.pages i)↔u∈cellStarts h.pages/\u / 16-1≠(i:Int):=fun u=>by rw[hd.starts,List.mem_filter,decide_eq_true_eq]
 have hm:zx ⟨h.w,zam h.pages i,F,h.cards⟩ cs=true:=by
  refine zdr ?_ ?_ ?_ hn
  ·obtain⟨a1,a2,a3,a4,_⟩:=zl hs
   unfold zC
   rw[a1,hd.may']
   show(true&&(true&&decide (h.w.length=16*(zam h.pages i).length/\h.cards.length=2*(zam h.pages i).length)))=true
   rw[hd.len,decide_eq_true ⟨a3,a4⟩]
   rfl
  ·intro l hll
   refine zF.2 fun d h0 h2 x hx=>?_
   obtain⟨k1,k2⟩:=hl l hll d h0 h2 x hx
   obtain⟨r1,r2,r3⟩:=(of_decide_eq_true k1:0<ze h.pages x/\zO h x=⟨1,d⟩/\zf h x=0)
   have hx:=zw.2 (show ze h.pages x≠0 by omega)
   refine decide_eq_true ⟨?_,?_,r3⟩
   ·show 0<ze (zam h.pages i) x
    rw[hd.room,if_neg k2];exact r1
   ·rw[znl hd hx k2];exact r2
  ·intro u hu
   obtain⟨u1,u2⟩:=(hst u).1 hu
   have:=hc u u1 u2
   unfold zaC at this ⊢
   rw[znl hd u1 u2,hw]
   exact this
 refine⟨hm,fun hwh=>?_,?_⟩
 ·unfold zq
  rw[hm,Bool.true_and,List.all_eq_true]
  intro u hu
  obtain⟨u1,u2⟩:=(hst u).1 hu
  rw[hw,Bool.or_eq_true]
  rcases hwh u u1 u2 with k|k
  ·exact .inl (by simpa using k)
  ·exact .inr (List.contains_iff_mem.2 k)
 ·rw[zbp (zcd hm)]
  show(cellStarts (zam h.pages i)).filter (fun u=>zf h u != 0)=_
  rw[hd.starts,List.filter_filter]
  apply List.filter_congr
  intro u hu
  by_cases e:u / 16-1=(i:Int)
  ·rw[hz u hu e];rfl
  ·rw[decide_eq_true e,Bool.and_true]
structure Freed (g k:Hp) (a:Int) (cs:List Lists):Prop where
 may:zx k cs=true
 whole:zq g cs=true->zq k cs=true
 used:zu k=(zu g).filter fun u=>decide (u≠a)
 cards:k.cards=g.cards
 wlen:k.w.length=g.w.length
 plen:k.pages.length=g.pages.length
 word:∀u,u≠a->ze g.pages u≠0->∀f,0<=f->f<ze g.pages u->zf k (u+f)=zf g (u+f)
 room:∀u,ze k.pages u≠0->ze k.pages u=ze g.pages u
 starts:(cellStarts k.pages).Sublist (cellStarts g.pages)
theorem zhm {g:Hp} {cs:List Lists} (hm:zx g cs=true) {a:Int} (h:headE g a=0):zf g a≠0:=by
 have:=zaa.2 h
 rw[zbp (zcd hm),List.mem_filter]at this
 simpa using this.2
theorem znn {g:Hp} {cs:List Lists} (hm:zx g cs=true) {a:Int} (h:headE g a=0) (fr:Lists) (cd:List Bool) :
  (cellStarts g.pages).filter (fun u=>zf ⟨zbm g a,g.pages,fr,cd⟩ u != 0)=(zu g).filter fun u=>decide (u≠a):=by
 rw[zbp (zcd hm),List.filter_filter]
 apply List.filter_congr
 intro u hu
 by_cases e:u=a
 ·subst e
  rw[zhq h,decide_eq_false (fun k=>k rfl)];rfl
 ·rw[zek h (zw.1 hu) e,decide_eq_true e,Bool.true_and]
theorem zqU {g:Hp} {cs:List Lists} (hm:zx g cs=true) {a:Int} (h:headE g a=0) (hk:(g.pages.getD (pgI a).toNat default).kind=2) :
  Freed g ⟨zbm g a,zam g.pages (pgI a).toNat,g.free,g.cards⟩ a cs:=by
 obtain⟨m1,m2,m3,m4⟩:=zai hm
 obtain⟨hn0,hd⟩:=zdj h
 have ei:((pgI a).toNat:Int)=pgI a:=by omega
 have hr:=(zU h).2.1
 have hpg:∀u∈cellStarts g.pages,u / 16-1=((pgI a).toNat:Int)->u=a:=by
  intro u hu e
  obtain⟨j,hj,ej⟩:=zf1 hu
  obtain⟨j',hj',ej'⟩:=zf1 (zw.2 hr)
  have e2:j=(pgI a).toNat:=by omega
  have e3:j' = (pgI a).toNat:=by unfold pgI at *;omega
  subst e2
  rw[e3]at hj'
  have k1:u=16*(((pgI a).toNat:Int)+1):=by rcases hj.kind with k|k;omega;exact k.2.2.2.1
  have k2:a=16*(((pgI a).toNat:Int)+1):=by rcases hj'.kind with k|k;omega;exact k.2.2.2.1
  omega
 have hst:∀l∈g.free::cs,∀d:Int,0<=d->d<=2->∀x∈l.at_ d,0<ze g.pages x/\zO g x=⟨1,d⟩/\zf g x=0:=fun l hl d h0 h2 x hx=>of_decide_eq_true (zF.1 (m2 l hl) d h0 h2 x hx)
 have key:=zmh (h:=⟨zbm g a,g.pages,g.free,g.cards⟩) (i:=(pgI a).toNat) (F:=g.free) (cs:=cs) ?_ hd ?_ ?_ ?_ m4
 ·obtain⟨k1,k2,k3⟩:=key
  refine⟨k1,fun hwh=>k2 fun u hu e=>?_,k3.trans (znn hm h _ _),rfl,zfC h,hd.len,fun u hne hu f f0 f1=>zoz h hu hne ⟨f0,f1⟩ _ _ _,fun u hu=>?_,?_⟩
  ·have hne:u≠a:=fun k=>by subst k;exact e (by unfold pgI;unfold pgI at ei;omega)
   rw[zek h (zw.1 hu) hne]
   unfold zq at hwh
   rw[hm,Bool.true_and,List.all_eq_true]at hwh
   have:=hwh u hu
   rw[Bool.or_eq_true]at this
   rcases this with k|k
   ·exact .inl (by simpa using k)
   ·exact .inr (List.contains_iff_mem.1 k)
  ·have:=hd.room u
   show ze (zam g.pages (pgI a).toNat) u=_
   rw[this]
   split
   ·rename_i e
    exact absurd (show ze (zam g.pages (pgI a).toNat) u=0 by rw[this,if_pos e]) hu
   ·rfl
  ·show(cellStarts (zam g.pages (pgI a).toNat)).Sublist _
   rw[hd.starts];exact List.filter_sublist
 ·obtain⟨a1,a2,a3,a4,_⟩:=zl m1
  have e:(zbm g a).length=g.w.length:=zfC h
  unfold zC
  show(zbo (zbm g a)&&(zar g.pages&&decide ((zbm g a).length=16*g.pages.length/\g.cards.length=2*g.pages.length)))=true
  unfold zbo at a1 ⊢
  rw[e,a1,a2,decide_eq_true ⟨a3,a4⟩];rfl
 ·intro u hu e
  rw[hpg u hu e];exact zhq h _ _ _
 ·intro l hl d h0 h2 x hx
  obtain⟨r1,r2,r3⟩:=hst l hl d h0 h2 x hx
  have hne:x≠a:=fun k=>zhm hm h (by rw[←k];exact r3)
  refine⟨decide_eq_true ⟨r1,r2,?_⟩,fun e=>hne (hpg x (zw.2 (by omega)) e)⟩
  rw[zek h (by omega) hne];exact r3
 ·intro u hu e
  have hne:u≠a:=fun k=>by subst k;exact e (by unfold pgI;unfold pgI at ei;omega)
  have:=m3 u hu
  unfold zaC at this ⊢
  rw[zek h (zw.1 hu) hne]
  exact this
abbrev zc3 (g:Hp) (a:Int):Hp:=znP {g with w:=zbm g a} (pgI a) a
theorem zmA {g:Hp} {cs:List Lists} (hm:zx g cs=true) {a:Int} (h:headE g a=0) (hk:(g.pages.getD (pgI a).toNat default).kind=1):Freed g (zc3 g a) a cs:=by
 obtain⟨m1,m2,m3,m4⟩:=zai hm
 obtain⟨hn0,hd⟩:=zdj h
 have hr:=(zU h).2.1
 have hc:=((zab hd.may).1 _ hd.lt).1 hk
 have hp:zO g a=⟨1,(g.pages.getD (pgI a).toNat default).arg⟩:=by
  show g.pages.getD (pgI a).toNat default=_
  generalize g.pages.getD (pgI a).toNat default=p at hk
  cases p;cases hk;rfl
 have hst:∀l∈g.free::cs,∀d:Int,0<=d->d<=2->∀x∈l.at_ d,0<ze g.pages x/\zO g x=⟨1,d⟩/\zf g x=0:=fun l hl d h0 h2 x hx=>of_decide_eq_true (zF.1 (m2 l hl) d h0 h2 x hx)
 have hkeep:∀l∈g.free::cs,∀d:Int,0<=d->d<=2->∀x∈l.at_ d,zau (zc3 g a) d x=true:=by
  intro l hl d h0 h2 x hx
  obtain⟨r1,r2,r3⟩:=hst l hl d h0 h2 x hx
  have hne:x≠a:=fun k=>zhm hm h (by rw[←k];exact r3)
  refine decide_eq_true ⟨r1,r2,?_⟩
  exact(zek h (by omega) hne _ _ _).trans r3
 have hperm:(zn ((zc3 g a).free::cs)).Perm (a::zn (g.free::cs)):=by
  show((g.free.set_ _ (g.free.at_ _++[a])).flat++zn cs).Perm (a::(g.free.flat++zn cs))
  exact(zqb hc).append_right _
 have hna:a ∉ zn (g.free::cs):=by
  intro k
  obtain⟨l,hl,hx⟩:=zcM.1 k
  exact zhm hm h (zdI (m2 l hl) hx).2
 have hmay:zx (zc3 g a) cs=true:=by
  refine zdr ?_ ?_ ?_ (hperm.nodup_iff.2 (List.nodup_cons.2 ⟨hna,m4⟩))
  ·obtain⟨a1,a2,a3,a4,_⟩:=zl m1
   have e:(zbm g a).length=g.w.length:=zfC h
   unfold zC
   show(zbo (zbm g a)&&(zar g.pages&&decide ((zbm g a).length=16*g.pages.length/\g.cards.length=2*g.pages.length)))=true
   unfold zbo at a1 ⊢
   rw[e,a1,a2,decide_eq_true ⟨a3,a4⟩];rfl
  ·intro l hl
   rcases List.mem_cons.1 hl with rfl|hl
   ·refine zF.2 fun d h0 h2 x hx=>?_
    have hx:x∈(g.free.set_ (g.pages.getD (pgI a).toNat default).arg (g.free.at_ (g.pages.getD (pgI a).toNat default).arg++[a])).at_ d:=hx
    rw[ze9 hc ⟨h0,h2⟩]at hx
    split at hx
    ·rename_i e
     rcases List.mem_append.1 hx with hx|hx
     ·exact hkeep g.free (List.mem_cons_self ..) d h0 h2 x (by rw[e];exact hx)
     ·rw[List.mem_singleton.1 hx]
      exact decide_eq_true ⟨by have:=zcn g.pages a;show 0<ze g.pages a;omega,by rw[e];exact hp,zhq h _ _ _⟩
    ·exact hkeep g.free (List.mem_cons_self ..) d h0 h2 x hx
   ·exact zF.2 fun d h0 h2 x hx=>hkeep l (List.mem_cons_of_mem _ hl) d h0 h2 x hx
  ·intro u hu
   have hu:u∈cellStarts g.pages:=hu
   by_cases e:u=a
   ·subst e
    unfold zaC
    rw[show zf (zc3 g u) u=0 from zhq h _ _ _,show zO (zc3 g u) u=zO g u from rfl,hp,show zjM 0=true by decide,show(unp 0).used=false by decide]
    rfl
   ·have:=m3 u hu
    unfold zaC at this ⊢
    rw[show zf (zc3 g a) u=zf g u from zek h (zw.1 hu) e _ _ _]
    exact this
 refine⟨hmay,fun hwh=>?_,?_,rfl,zfC h,rfl,fun u hne hu f f0 f1=>zoz h hu hne ⟨f0,f1⟩ _ _ _,fun u hu=>rfl,List.Sublist.refl _⟩
 ·unfold zq
  rw[hmay,Bool.true_and,List.all_eq_true]
  intro u hu
  have hu:u∈cellStarts g.pages:=hu
  rw[Bool.or_eq_true]
  by_cases e:u=a
  ·exact .inr (List.contains_iff_mem.2 (hperm.mem_iff.2 (by rw[e];exact List.mem_cons_self ..)))
  ·rw[show zf (zc3 g a) u=zf g u from zek h (zw.1 hu) e _ _ _]
   unfold zq at hwh
   rw[hm,Bool.true_and,List.all_eq_true]at hwh
   have:=hwh u hu
   rw[Bool.or_eq_true]at this
   rcases this with k|k
   ·exact .inl k
   ·exact .inr (List.contains_iff_mem.2 (hperm.mem_iff.2 (List.mem_cons_of_mem _ (List.contains_iff_mem.1 k))))
 ·rw[zbp (zcd hmay)]
  exact znn hm h _ _
theorem zla (g:Hp) (i:Int):zeR g i=(g.free.at_ (g.pages.getD i.toNat default).arg).filter (inP (16*(i+1)) (16*(i+1)+16)):=by
 unfold zeR zcG;rw[List.take_length]
theorem zi1 (g:Hp) (i:Int):zdP g i=(g.free.at_ (g.pages.getD i.toNat default).arg).filter fun x=>!inP (16*(i+1)) (16*(i+1)+16) x:=by
 unfold zdP zbu;rw[List.take_length]
theorem zjt {i x:Int}:inP (16*(i+1)) (16*(i+1)+16) x=decide (x / 16-1=i):=by
 unfold inP
 rw[←Bool.decide_and]
 exact decide_eq_decide.2 (by omega)
def zem (p:Page) (i:Int):List Int:=(List.range (zfg p.arg).toNat).map fun k:Nat=>16*(i+1)+(k:Int)*zaR p.arg
theorem zlL {l:List Page} {u:Int} {i:Nat} (hu:u∈cellStarts l) (e:u / 16-1=(i:Int)) (hk:(l.getD i default).kind=1):u∈zem (l.getD i default) i:=by
 obtain⟨j,hj,ej⟩:=zf1 hu
 have:j=i:=by omega
 subst this
 obtain⟨hmp,_⟩:=zap (zz (zw.1 hu))
 rcases zgC ((zab hmp).1 j hj.lt) hj.mem with⟨_,_,k,k1,k2⟩|⟨k,_⟩
 ·have k2:u=16*((j:Int)+1)+(k:Int)*zaR (l.getD j default).arg:=k2
  refine List.mem_map.2 ⟨k,List.mem_range.2 (by omega),k2.symm⟩
 ·omega
theorem zpB {g:Hp} {cs:List Lists} (hm:zx g cs=true) {i:Int} (h0:0<=i) (hd:Drops g.pages i.toNat) (hk:(g.pages.getD i.toNat default).kind=1) :
  ((zeR g i).length:Int)<=zfg (g.pages.getD i.toNat default).arg/\(((zeR g i).length:Int)=zfg (g.pages.getD i.toNat default).arg->∀u∈cellStarts g.pages,u / 16-1=i->u∈zeR g i):=by
 obtain⟨m1,m2,m3,m4⟩:=zai hm
 have hc:=((zab hd.may).1 _ hd.lt).1 hk
 have ei:((i.toNat:Nat):Int)=i:=by omega
 have hN:=zhV hc
 have hlen:((zem (g.pages.getD i.toNat default) i).length:Int)=zfg (g.pages.getD i.toNat default).arg:=by
  unfold zem;rw[List.length_map,List.length_range];rcases hN with k|k|k<;>omega
 have hnd:(zeR g i).Nodup:=by
  rw[zla]
  apply List.Nodup.sublist List.filter_sublist
  have e:zn (g.free::cs)=g.free.flat++zn cs:=rfl
  rw[e]at m4
  have:=(List.nodup_append.1 m4).1
  have hc' : (g.pages.getD i.toNat default).arg=0\/(g.pages.getD i.toNat default).arg=1\/(g.pages.getD i.toNat default).arg=2:=by omega
  unfold Lists.flat at this
  rcases hc' with e|e|e<;>rw[e]
  ·exact(List.nodup_append.1 (List.nodup_append.1 this).1).1
  ·exact(List.nodup_append.1 (List.nodup_append.1 this).1).2.1
  ·exact(List.nodup_append.1 this).2.1
 have hsub:∀x∈zeR g i,x∈zem (g.pages.getD i.toNat default) i:=by
  intro x hx
  rw[zla,List.mem_filter,zjt,decide_eq_true_eq]at hx
  obtain⟨r1,_⟩:=(of_decide_eq_true (zF.1 (m2 g.free (List.mem_cons_self ..)) _ hc.1 hc.2 x hx.1):0<ze g.pages x/\_)
  have:=zlL (i:=i.toNat) (zw.2 (show ze g.pages x≠0 by omega)) (by omega) hk
  rw[ei]at this;exact this
 have hle:=zfK hnd hsub
 refine⟨by omega,fun he u hu e=>?_⟩
 refine zy0 hnd hsub (by omega) u ?_
 have:=zlL (i:=i.toNat) hu (by omega) hk
 rw[ei]at this;exact this
theorem zlr {g:Hp} {cs:List Lists} (hm:zx g cs=true) {i:Int} (h0:0<=i) (hd:Drops g.pages i.toNat) (hk:(g.pages.getD i.toNat default).kind=1) :
  zx (zcb g i) cs=true/\(zq g cs=true->zq (zcb g i) cs=true)/\zu (zcb g i)=zu g/\(zcb g i).cards=g.cards/\(zcb g i).w=g.w/\(zcb g i).pages.length=g.pages.length/\(∀u,ze (zcb g i).pages u≠0->ze (zcb g i).pages u=ze g.pages u)/\(cellStarts (zcb g i).pages).Sublist (cellStarts g.pages):=by
 unfold zcb
 split
 case isFalse=>exact⟨hm,id,rfl,rfl,rfl,rfl,fun _ _=>rfl,List.Sublist.refl _⟩
 rename_i hn
 obtain⟨m1,m2,m3,m4⟩:=zai hm
 have hc:=((zab hd.may).1 _ hd.lt).1 hk
 have ei:((i.toNat:Nat):Int)=i:=by omega
 have hall:=(zpB hm h0 hd hk).2 hn
 have hst:∀l∈g.free::cs,∀d:Int,0<=d->d<=2->∀x∈l.at_ d,0<ze g.pages x/\zO g x=⟨1,d⟩/\zf g x=0:=fun l hl d h0 h2 x hx=>of_decide_eq_true (zF.1 (m2 l hl) d h0 h2 x hx)
 have harg:∀l∈g.free::cs,∀d:Int,0<=d->d<=2->∀x∈l.at_ d,x / 16-1=i->d=(g.pages.getD i.toNat default).arg:=by
  intro l hl d d0 d2 x hx e
  obtain⟨_,r2,_⟩:=hst l hl d d0 d2 x hx
  unfold zO at r2
  rw[e]at r2
  rw[r2]
 have hof:∀u∈cellStarts g.pages,u / 16-1=i->u∈g.free.at_ (g.pages.getD i.toNat default).arg/\u∈g.free.flat:=by
  intro u hu e
  have:=hall u hu e
  rw[zla,List.mem_filter]at this
  exact⟨this.1,zbq.2 ⟨_,hc.1,hc.2,this.1⟩⟩
 have hsub:(zn (g.free.set_ (g.pages.getD i.toNat default).arg (zdP g i)::cs)).Sublist (zn (g.free::cs)):=by
  show((g.free.set_ _ (zdP g i)).flat++zn cs).Sublist (g.free.flat++zn cs)
  exact(zx9 hc (by rw[zi1];exact List.filter_sublist)).append (List.Sublist.refl _)
 have key:=zmh (h:=g) (i:=i.toNat) (F:=g.free.set_ (g.pages.getD i.toNat default).arg (zdP g i)) (cs:=cs) m1 hd ?_ ?_ (fun u hu _=>m3 u hu) (m4.sublist hsub)
 ·obtain⟨k1,k2,k3⟩:=key
  refine⟨k1,fun hwh=>k2 fun u hu e=>?_,k3.trans (zbp (zcd hm)).symm,rfl,rfl,hd.len,fun u hu=>?_,?_⟩
  ·unfold zq at hwh
   rw[hm,Bool.true_and,List.all_eq_true]at hwh
   have:=hwh u hu
   rw[Bool.or_eq_true]at this
   rcases this with k|k
   ·exact .inl (by simpa using k)
   ·refine .inr ?_
    have k:=List.contains_iff_mem.1 k
    have k:u∈g.free.flat++zn cs:=k
    show u∈(g.free.set_ _ (zdP g i)).flat++zn cs
    rcases List.mem_append.1 k with k|k
    ·refine List.mem_append.2 (.inl ?_)
     obtain⟨d,d0,d2,hx⟩:=zbq.1 k
     refine zbq.2 ⟨d,d0,d2,?_⟩
     rw[ze9 hc ⟨d0,d2⟩]
     split
     ·rename_i ed
      rw[zi1,List.mem_filter]
      exact⟨by rw[←ed];exact hx,by rw[zjt,decide_eq_false (by omega)];rfl⟩
     ·exact hx
    ·exact List.mem_append.2 (.inr k)
  ·have:=hd.room u
   show ze (zam g.pages i.toNat) u=_
   rw[this]
   split
   ·rename_i e
    exact absurd (show ze (zam g.pages i.toNat) u=0 by rw[this,if_pos e]) hu
   ·rfl
  ·show(cellStarts (zam g.pages i.toNat)).Sublist _
   rw[hd.starts];exact List.filter_sublist
 ·intro u hu e
  obtain⟨l,k⟩:=hof u hu (by omega)
  exact(hst g.free (List.mem_cons_self ..) _ hc.1 hc.2 u l).2.2
 ·intro l hl d d0 d2 x hx
  rcases List.mem_cons.1 hl with rfl|hl
  ·rw[ze9 hc ⟨d0,d2⟩]at hx
   split at hx
   ·rename_i ed
    rw[zi1,List.mem_filter,zjt]at hx
    obtain⟨x1,x2⟩:=hx
    refine⟨zF.1 (m2 g.free (List.mem_cons_self ..)) d d0 d2 x (by rw[ed];exact x1),fun e=>?_⟩
    rw[decide_eq_true (by omega)]at x2
    cases x2
   ·rename_i ed
    exact⟨zF.1 (m2 g.free (List.mem_cons_self ..)) d d0 d2 x hx,fun e=>ed (harg g.free (List.mem_cons_self ..) d d0 d2 x hx (by omega))⟩
  ·refine⟨zF.1 (m2 l (List.mem_cons_of_mem _ hl)) d d0 d2 x hx,fun e=>?_⟩
   have hxs:=zw.2 (show ze g.pages x≠0 by have:=(hst l (List.mem_cons_of_mem _ hl) d d0 d2 x hx).1;omega)
   obtain⟨_,k⟩:=hof x hxs (by omega)
   have e:zn (g.free::cs)=g.free.flat++zn cs:=rfl
   rw[e]at m4
   exact(List.nodup_append.1 m4).2.2 x k x (zcM.2 ⟨l,hl,zbq.2 ⟨d,d0,d2,hx⟩⟩) rfl
theorem zny {g:Hp} {cs:List Lists} (hm:zx g cs=true) {a:Int} (h:headE g a=0):Freed g (zdU g a) a cs:=by
 unfold zdU
 rw[if_pos h]
 split
 ·rename_i hk
  exact zqU hm h hk
 ·rename_i hk
  obtain⟨hn0,hd⟩:=zdj h
  have hk1:=hd.kind.resolve_right hk
  have f:=zmA hm h hk1
  obtain⟨b1,b2,b3,b4,b5,b6,b7,b8⟩:=zlr (g:=zc3 g a) f.may hn0 hd hk1
  exact⟨b1,fun k=>b2 (f.whole k),b3.trans f.used,b4.trans f.cards,(congrArg List.length b5).trans f.wlen,b6.trans f.plen,fun u hne hu x x0 x1=>(show zf _ _=zf (zc3 g a) (u+x) by unfold zf;rw[b5]).trans (f.word u hne hu x x0 x1),fun u hu=>b7 u hu,b8⟩
open Go.Proofs Go.Proofs.YtlankjlnnimdoaaGreatDoor
def rkV (g:Hp):List CV:=g.enc.map .d
theorem zlp (g:Hp) (hs:g.small):Spec X 239 [] [g.tv] (Ret [(0,.vars (rkV g))] (.c (.ptr 0 0 0))):=by
 refine zGO X_ok Tryz.f239 fun hb hH=>⟨rfl,?_⟩
 obtain⟨h1,h2,h3,h4,h5,h6⟩:=hs
 show ADCall ..
 refine .mk _ _ (zd g.w h1) rfl ?_
 show ADCall ..
 refine .mk _ _ (zac g.pages h2) rfl ?_
 show ADCall ..
 refine .mk _ _ (zah g.cards h3) rfl ?_
 show ∃n,_
 refine⟨4,?_⟩
 show ALoop ..
 refine .next ?_
 refine zYE (by decide) ?_
 show AOb ..
 refine⟨by decide,?_⟩
 show ACall ..
 refine za (zd g.free.l0 h4) rfl ?_
 show AOb ..
 refine⟨by decide,?_⟩
 show ALoop ..
 refine .next ?_
 refine zYE (by decide) ?_
 show AOb ..
 refine⟨by decide,?_⟩
 show ACall ..
 refine za (zd g.free.l1 h5) rfl ?_
 show AOb ..
 refine⟨by decide,?_⟩
 show ALoop ..
 refine .next ?_
 refine zYE (by decide) ?_
 show AOb ..
 refine⟨by decide,?_⟩
 show ACall ..
 refine za (zd g.free.l2 h6) rfl ?_
 show AOb ..
 refine⟨by decide,?_⟩
 show ALoop ..
 refine .next ?_
 refine zNO (by decide) ?_
 show ARet ..
 exact⟨[(_,0)],[(0,.vars (rkV g))],[.c (.ptr 0 0 0)],.cons _ _ _ _ (.c _ _ (.ptr1 _ _ _ _)) .nil,.old 0 _ _ _ _ rfl rfl (.vars _ _ (zb rfl)) .nil,rfl,rfl,rfl⟩
theorem zvn (w:List Int) (a n:Int) (hw:zbo w=true) (ha:16<=a/\0<n/\a+n<=16+w.length):Spec X 236 [(16,.data .int w)] [.c (.own 16),.int a,.int n] (fun H r=>H=[(16,.data .int w)]/\r = .tup [.c (.view 16 (a-16).toNat n.toNat),.int 0]):=by
 refine zGO X_ok Tryz.f236 fun hb hH=>⟨rfl,?_⟩
 show ACall ..
 refine za (zfA w) rfl ?_
 rw[hw]
 show ABr (!true) _ _
 refine zNO (by decide) ?_
 show ABr (decide (n<0)) _ _
 refine⟨fun h=>absurd (of_decide_eq_true h) (by omega),fun _=>?_⟩
 have h1:w.length<=1024:=by have:=of_decide_eq_true hw;omega
 have e1:IntKind.i64.wrap (a-16)=a-16:=zB (by omega) (by omega)
 have e2:IntKind.i64.wrap ((w.length:Int)-(a-16))=w.length-(a-16):=zB (by omega) (by omega)
 show ABr (bif decide (n>0) then (bif (bif decide (a<16) then true else decide (IntKind.i64.wrap (a-16)>=(w.length:Int))) then true else decide (n>IntKind.i64.wrap ((w.length:Int)-IntKind.i64.wrap (a-16)))) else false) _ _
 rw[e1,e2]
 refine⟨fun h=>?_,fun _=>?_⟩
 ·exfalso
  have g1:decide (a<16)=false:=decide_eq_false (by omega)
  have g2:decide (a-16>=(w.length:Int))=false:=decide_eq_false (by omega)
  have g3:decide (n>(w.length:Int)-(a-16))=false:=decide_eq_false (by omega)
  rw[g1,g2,g3]at h
  cases hn:decide (n>0)<;>rw[hn]at h<;>exact absurd h (by decide)
 ·show ABr (decide (n=0)) _ _
  refine⟨fun h=>absurd (of_decide_eq_true h) (by omega),fun _=>?_⟩
  show AOb ((0:Int)<=IntKind.i64.wrap (a-16)/\IntKind.i64.wrap (a-16)<=(w.length:Int)) _
  rw[e1]
  refine⟨by omega,?_⟩
  show AOb ((0:Int)<=n/\n<=n/\n<=((((w.length:Int)-(a-16)).toNat:Nat):Int)) _
  refine⟨by omega,?_⟩
  show ARet ..
  exact⟨[(16,16)],[(16,.data .int w)],[.c (.view 16 (a-16).toNat n.toNat),.int 0],.cons _ _ _ _ (.view_eq2 (o:=(a-16).toNat+0) (n:=(n-0).toNat) (by simp[za3]) rfl (by omega)) (.cons _ _ _ _ .same .nil),.old 16 16 _ _ _ rfl rfl (.data_eq rfl) .nil,rfl,rfl,rfl⟩
theorem zim (w:List Int) (a n:Int) (hw:zbo w=true) (ha:16<=a/\0<n/\a+n<=16+w.length):Spec X 234 [] [.c (.d (.sl .int w)),.int a,.int n] (Ret [] (.tup [.c (.d (.sl .int (zK w (a-16).toNat (List.replicate n.toNat (0:Int))))),.int 0])):=by
 refine zGO X_ok Tryz.f234 fun hb hH=>⟨rfl,?_⟩
 have h1:16<=w.length/\w.length<=1024:=by have:=of_decide_eq_true hw;omega
 show ACall ..
 refine .mk _ (zeM w (by unfold zk;omega) (by intro e;subst e;simp at h1)) fun H r ⟨eH,er⟩ _ _=>⟨.inl rfl,?_⟩
 subst eH er
 refine .hand [(_,16)] [(16,.data .int w)] [.c (.own 16),.int a,.int n] _ (.cons _ _ _ _ (.c _ _ (.own1 _ _)) (.cons _ _ _ _ .same (.cons _ _ _ _ .same .nil))) (.old 16 _ _ _ _ rfl rfl (.data_eq rfl) .nil) rfl (zvn w a n hw ha) ?_
 rintro H r ⟨rfl,rfl⟩ _ _
 refine⟨rfl,.inl rfl,?_⟩
 refine zNO (by decide) ?_
 show ARet ..
 exact⟨[],[],[.c (.d (.sl .int (zK w (a-16).toNat (List.replicate n.toNat (0:Int))))),.int 0],.cons _ _ _ _ (.frz (k:=.int) (l:=zK w (a-16).toNat (List.replicate n.toNat (0:Int))) rfl rfl) (.cons _ _ _ _ .same .nil),.nil,rfl,rfl,rfl⟩
theorem zh7 (l:List Page) (h:l.length<=zk) (hne:l≠[]):Spec X 64 [] [.c (.d (.sl .page l))] (Ret [(0,.data .page l)] (.c (.own 0))):=by
 refine zGO X_ok Tryz.f64 fun hb _=>⟨rfl,?_⟩
 intro b (hnil:b=true->l=[])
 show ABr ..
 refine⟨fun hb=>absurd (hnil hb) hne,fun hb=>?_⟩
 show AOb (0+l.length<=zk) _
 refine⟨by omega,?_⟩
 show ARet ..
 exact⟨[(_,0)],[(0,.data .page l)],[.c (.own 0)],.cons _ _ _ _ (.c _ _ (.own1 _ _)) .nil,.old 0 _ _ _ _ rfl rfl (.data_eq rfl) .nil,rfl,rfl,rfl⟩
theorem zhE (l o:List Page) (i:Int) (hm:zar l=true) (h0:0<=i) (h1:i<(l.length:Int)):Spec X 271 [] [.c (.d (.sl .page l)),.int i,.c (.d (.sl .page o))] (Ret [] (.c (.d (.sl .page (zbk l i.toNat o))))):=by
 refine zGO X_ok Tryz.f271 fun hb hH=>⟨rfl,?_⟩
 have hb:=hb (.c (.d (.sl .page l))) (by simp)
 have hl:l.length<=zE:=hb.1
 show ACall ..
 refine .mk _ (zh7 l (by have:=(zab hm).2.2;unfold zk;omega) (by intro e;subst e;simp at h1;omega)) fun H r ⟨eH,er⟩ _ _=>⟨.inl rfl,?_⟩
 subst eH er
 show AOb ((0:Int)<=i/\i<=(l.length:Int)) _
 refine⟨by omega,?_⟩
 show ARet ..
 have e:zK l i.toNat (o.take ((l.length:Int)-i).toNat)=zbk l i.toNat o:=by unfold zbk;rw[show((l.length:Int)-i).toNat=l.length-i.toNat by omega]
 exact⟨[],[],[.c (.d (.sl .page (zbk l i.toNat o)))],.cons _ _ _ _ (.c _ _ (.frz_eq (k:=.page) (l:=zK l i.toNat (o.take ((l.length:Int)-i).toNat)) rfl e)) .nil,.nil,rfl,rfl,rfl⟩
theorem zuS {l:List Page} {i:Nat} (h:Drops l i):zag (l.getD i default)=true:=by
 have hp:=(zab h.may).1 i h.lt
 rcases h.kind with hk|hk
 ·have:=hp.1 hk
  exact decide_eq_true (.inr (.inl ⟨hk,this⟩))
 ·have:=hp.2 hk
  exact decide_eq_true (.inr (.inr ⟨hk,this⟩))
theorem zsE (l:List Page) (i:Int) (h0:0<=i) (hd:Drops l i.toNat):Spec X 272 [] [.c (.d (.sl .page l)),.int i] (Ret [] (.tup [.c (.d (.sl .page (zam l i.toNat))),.int 0])):=by
 refine zGO X_ok Tryz.f272 fun hb hH=>⟨rfl,?_⟩
 have hlt:=hd.lt
 show ACall ..
 refine za (zdk l) rfl ?_
 rw[hd.may]
 show ABr (!true) _ _
 refine zNO (by decide) ?_
 show ABr (decide (i<0)) _ _
 rw[decide_eq_false (by omega)]
 refine zNO (by decide) ?_
 show ABr (decide (i>=(l.length:Int))) _ _
 rw[decide_eq_false (by omega)]
 refine zNO (by decide) ?_
 show AOb ((0:Int)<=i/\i<(l.length:Int)) _
 refine⟨by omega,?_⟩
 have hk:=hd.kind
 have hf:=zuS hd
 obtain⟨a1,a2,_,_⟩:=hd.all
 show ABr ((l.getD i.toNat default).kind==0) _ _
 rw[show((l.getD i.toNat default).kind==0)=false by simp only[beq_eq_false_iff_ne];omega]
 refine zNO (by decide) ?_
 show AOb ((0:Int)<=i/\i<(l.length:Int)) _
 refine⟨by omega,?_⟩
 show ABr ((l.getD i.toNat default).kind==3) _ _
 rw[show((l.getD i.toNat default).kind==3)=false by simp only[beq_eq_false_iff_ne];omega]
 refine zNO (by decide) ?_
 show AOb ((0:Int)<=i/\i<(l.length:Int)) _
 refine⟨by omega,?_⟩
 show ABr ((l.getD i.toNat default).kind==2) _ _
 unfold zam
 unfold sizeP at a1 a2 ⊢
 by_cases h2:(l.getD i.toNat default).kind=2
 ·rw[if_pos h2]at a1 a2 ⊢
  rw[show((l.getD i.toNat default).kind==2)=true by simp only[beq_iff_eq];exact h2]
  refine zYE (by decide) ?_
  show AOb ((0:Int)<=i/\i<(l.length:Int)) _
  refine⟨by omega,?_⟩
  have hfk:=(of_decide_eq_true hf:_)
  have hln:=(zab hd.may).2.2
  show AOb ((0:Int)<=(l.getD i.toNat default).arg/\(l.getD i.toNat default).arg<=(l.getD i.toNat default).arg/\(l.getD i.toNat default).arg<=((zk:Nat):Int)) _
  refine⟨by unfold zk;omega,?_⟩
  show ACall ..
  refine .frz [1440] [] [.c (.d (.sl .page l)),.int i,.c (.d (.sl .page (List.replicate (l.getD i.toNat default).arg.toNat ⟨0,0⟩)))] _ rfl .nil (.cons _ _ _ _ (.c _ _ (.same _)) (.cons _ _ _ _ (.c _ _ (.same _)) (.cons _ _ _ _ (.c _ _ (.frz _ _ rfl)) .nil))) rfl (zhE l (List.replicate (l.getD i.toNat default).arg.toNat ⟨0,0⟩) i hd.may h0 (by omega)) ?_
  rintro H r ⟨rfl,rfl⟩ _ _
  show ARet ..
  exact zi rfl ⟨rfl,rfl⟩
 ·rw[if_neg h2]at a1 a2 ⊢
  rw[show((l.getD i.toNat default).kind==2)=false by simp only[beq_eq_false_iff_ne];exact h2]
  refine zNO (by decide) ?_
  show AOb ((0:Int)<=(1:Int)/\(1:Int)<=(1:Int)/\(1:Int)<=((zk:Nat):Int)) _
  refine⟨by unfold zk;omega,?_⟩
  show ACall ..
  refine .frz [1248] [] [.c (.d (.sl .page l)),.int i,.c (.d (.sl .page (List.replicate 1 ⟨0,0⟩)))] _ rfl .nil (.cons _ _ _ _ (.c _ _ (.same _)) (.cons _ _ _ _ (.c _ _ (.same _)) (.cons _ _ _ _ (.c _ _ (.frz _ _ rfl)) .nil))) rfl (zhE l (List.replicate 1 ⟨0,0⟩) i hd.may h0 (by omega)) ?_
  rintro H r ⟨rfl,rfl⟩ _ _
  show ARet ..
  exact zi rfl ⟨rfl,rfl⟩
theorem zmu (g:Hp) (i:Int) (h0:0<=i) (hd:Drops g.pages i.toNat):Spec X 264 [(16,.vars (rkV g))] [.c (.ptr 16 0 0),.int i] (fun H r=>H=[(16,.vars (rkV {g with pages:=zam g.pages i.toNat}))]/\r = .tup []):=by
 refine zGO X_ok Tryz.f264 fun hb hH=>⟨rfl,?_⟩
 show ACall ..
 refine za (zsE g.pages i h0 hd) rfl ?_
 show ARet ..
 exact⟨[(16,16)],[(16,.vars (rkV {g with pages:=zam g.pages i.toNat}))],[],.nil,.old 16 16 _ _ _ rfl rfl (.vars _ _ (zb rfl)) .nil,rfl,rfl,rfl⟩
theorem zs8 (g:Hp) (i a:Int) (h0:0<=i) (hd:Drops g.pages i.toNat):Spec X 275 [(16,.vars (rkV g))] [.c (.ptr 16 0 0),.int i,.int a] (fun H r=>H=[(16,.vars (rkV {g with pages:=zam g.pages i.toNat}))]/\r = .tup []):=by
 refine zGO X_ok Tryz.f275 fun hb hH=>⟨rfl,?_⟩
 show ACall ..
 refine .hand [(16,16)] [(16,.vars (rkV g))] [.c (.ptr 16 0 0),.int i] _ (.cons _ _ _ _ (.c _ _ (.ptr _ _ _ _ rfl)) (.cons _ _ _ _ .same .nil)) (.old 16 16 _ _ _ rfl rfl (.vars _ _ (zb rfl)) .nil) rfl (zmu g i h0 hd) ?_
 rintro H r ⟨rfl,rfl⟩ _ _
 refine⟨rfl,.inl rfl,?_⟩
 show ARet ..
 exact⟨[(16,16)],[(16,.vars (rkV {g with pages:=zam g.pages i.toNat}))],[],.nil,.old 16 16 _ _ _ rfl rfl (.vars _ _ (zb rfl)) .nil,rfl,rfl,rfl⟩
theorem zmr (g:Hp) (i:Int) (h0:0<=i) (hd:Drops g.pages i.toNat) (hk:(g.pages.getD i.toNat default).kind=1) (hok:g.free.ok):Spec X 241 [(16,.vars (rkV g))] [.c (.ptr 16 0 0),.int i] (fun H r=>H=[(16,.vars (rkV (zcb g i)))]/\r = .tup []):=by
 refine zGO X_ok Tryz.f241 fun hb hH=>⟨rfl,?_⟩
 have hlt:=hd.lt
 show AOb ((0:Int)<=i/\i<(g.pages.length:Int)) _
 refine⟨by omega,?_⟩
 show ABr ((g.pages.getD i.toNat default).kind != 1) _ _
 rw[show((g.pages.getD i.toNat default).kind != 1)=false by rw[hk];rfl]
 refine zNO (by decide) ?_
 have hl64:=(zab hd.may).2.2
 have e0:IntKind.i64.wrap (i+1)=i+1:=zB (by omega) (by omega)
 have e1:IntKind.i64.wrap (IntKind.i64.wrap (i+1)*16)=16*(i+1):=by rw[e0,zB (by omega) (by omega)];omega
 have e2:IntKind.i64.wrap (IntKind.i64.wrap (IntKind.i64.wrap (i+1)*16)+16)=16*(i+1)+16:=by rw[e1,zB (by omega) (by omega)]
 have sp:Spec X 263 [] [g.free.tv,.int (g.pages.getD i.toNat default).arg,.int (IntKind.i64.wrap (IntKind.i64.wrap (i+1)*16)),.int (IntKind.i64.wrap (IntKind.i64.wrap (IntKind.i64.wrap (i+1)*16)+16))] (Ret [] (.tup [(g.free.set_ (g.pages.getD i.toNat default).arg (zdP g i)).tv,.c (.d (.sl .int (zeR g i))),.int 0])):=by
  rw[e2,e1]
  exact zvs g.free _ _ _ (((zab hd.may).1 i.toNat hlt).1 hk) hok
 show ADCall ..
 refine .mk _ _ (sp) rfl ?_
 show ACall ..
 refine za (zkU (g.pages.getD i.toNat default).arg) rfl ?_
 show ABr (decide (((zeR g i).length:Int)=zfg (g.pages.getD i.toNat default).arg)) _ _
 unfold zcb
 by_cases hn:((zeR g i).length:Int)=zfg (g.pages.getD i.toNat default).arg
 ·rw[if_pos hn,decide_eq_true hn]
  refine zYE (by decide) ?_
  show ACall ..
  refine .hand [(16,16)] [(16,.vars (rkV {g with free:=g.free.set_ (g.pages.getD i.toNat default).arg (zdP g i)}))] [.c (.ptr 16 0 0),.int i] _ (.cons _ _ _ _ (.c _ _ (.ptr _ _ _ _ rfl)) (.cons _ _ _ _ .same .nil)) (.old 16 16 _ _ _ rfl rfl (.vars _ _ (zb rfl)) .nil) rfl (zmu {g with free:=g.free.set_ (g.pages.getD i.toNat default).arg (zdP g i)} i h0 hd) ?_
  rintro H r ⟨rfl,rfl⟩ _ _
  refine⟨rfl,.inl rfl,?_⟩
  show ARet ..
  exact⟨[(16,16)],[(16,.vars (rkV {g with free:=g.free.set_ (g.pages.getD i.toNat default).arg (zdP g i),pages:=zam g.pages i.toNat}))],[],.nil,.old 16 16 _ _ _ rfl rfl (.vars _ _ (zb rfl)) .nil,rfl,rfl,rfl⟩
 ·rw[if_neg hn,decide_eq_false hn]
  refine zNO (by decide) ?_
  show ARet ..
  exact⟨[(16,16)],[(16,.vars (rkV g))],[],.nil,.old 16 16 _ _ _ rfl rfl (.vars _ _ (zb rfl)) .nil,rfl,rfl,rfl⟩
theorem ze7 {l:Lists} {c:Int} {x:List Int} (h:l.ok) (hx:x.length<=zk):(l.set_ c x).ok:=by
 obtain⟨h1,h2,h3⟩:=h
 unfold Lists.set_
 split
 ·exact⟨hx,h2,h3⟩
 ·split
  ·exact⟨h1,hx,h3⟩
  ·exact⟨h1,h2,hx⟩
theorem zrs {g:Hp} (hs:g.small):g.free.ok:=by
 exact hs.2.2.2
theorem zs7 (g:Hp) (i a:Int) (h0:0<=i) (hd:Drops g.pages i.toNat) (hk:(g.pages.getD i.toNat default).kind=1) (hs:g.small) (h1:(g.free.at_ (g.pages.getD i.toNat default).arg).length<zk) :
  Spec X 274 [(16,.vars (rkV g))] [.c (.ptr 16 0 0),.int i,.int a] (fun H r=>H=[(16,.vars (rkV (zcb (znP g i a) i)))]/\r = .tup []):=by
 refine Spec.fz (zGO zmN Tryz.f274 fun hb hH=>⟨rfl,?_⟩)
 have hlt:=hd.lt
 have harg:=((zab hd.may).1 i.toNat hlt).1 hk
 show AOb ((0:Int)<=i/\i<(g.pages.length:Int)) _
 refine⟨by omega,?_⟩
 show ADCall ..
 refine .mk _ _ ((zfE g.free (g.pages.getD i.toNat default).arg [a] harg (zrs hs) h1).uz) rfl ?_
 show ACall ..
 refine .hand [(16,16)] [(16,.vars (rkV (znP g i a)))] [.c (.ptr 16 0 0),.int i] _ (.cons _ _ _ _ (.c _ _ (.ptr _ _ _ _ rfl)) (.cons _ _ _ _ .same .nil)) (.old 16 16 _ _ _ rfl rfl (.vars _ _ (zb rfl)) .nil) rfl (zmr (znP g i a) i h0 hd hk (ze7 (zrs hs) (by rw[List.length_append];exact h1))).uz ?_
 rintro H r ⟨rfl,rfl⟩ _ _
 refine⟨rfl,.inl rfl,?_⟩
 show ARet ..
 exact⟨[(16,16)],[(16,.vars (rkV (zcb (znP g i a) i)))],[],.nil,.old 16 16 _ _ _ rfl rfl (.vars _ _ (zb rfl)) .nil,rfl,rfl,rfl⟩
theorem zpS (a:Int) (h:0<=a) (h' : a<9223372036854775808):Spec X 273 [] [.int a] (Ret [] (.int (pgI a))):=by
 refine zGO X_ok Tryz.f273 fun hb hH=>⟨rfl,?_⟩
 show AOb ..
 refine⟨by decide,?_⟩
 show ARet ..
 refine zaZ (x:=IntKind.i64.wrap (tdv a 16-1)) ?_ ⟨rfl,rfl⟩
 rw[zmP h (by omega) h']
 exact zB (by omega) (by omega)
set_option maxRecDepth 60000 in
set_option maxHeartbeats 2000000 in
theorem zuw (g:Hp) (a:Int) (hl:g.light) (hs:g.small):Spec X 265 [] [g.tv,.int a] (Ret [] (.tup [(zdU g a).tv,.int (headE g a)])):=by
 refine zGO X_ok Tryz.f265 fun hb hH=>⟨rfl,?_⟩
 show ACall ..
 refine za (zaJ g a hl) rfl ?_
 unfold zdU
 by_cases h:headE g a=0
 ·show ABr (!decide (headE g a=0)) _ _
  rw[decide_eq_true h,if_pos h]
  refine zNO (by decide) ?_
  obtain⟨hm,hr,_⟩:=zU h
  obtain⟨hn0,hd⟩:=zdj h
  show ACall ..
  refine .mk _ (zlp g hs) fun H r ⟨eH,er⟩ _ _=>⟨.inl rfl,?_⟩
  subst eH er
  obtain⟨z1,z2,z3,z4⟩:=za4 h
  obtain⟨_,_,hwl,_,_,hl64⟩:=zl (zA hm)
  have hlt:=hd.lt
  have hwl' : (zbm g a).length=g.w.length:=zfC h
  have hs' : ({g with w:=zbm g a}:Hp).small:=⟨by show(zbm g a).length<=zk;rw[hwl'];exact hs.1,hs.2⟩
  show ADCall ..
  refine .mk _ _ (zfl g.pages a) rfl ?_
  show ADCall ..
  refine .mk _ _ (zim g.w a (ze g.pages a) z1 ⟨z2,z3,z4⟩) rfl ?_
  show ACall ..
  refine za (zpS a (by omega) (by unfold pgI at hlt hn0;omega)) rfl ?_
  show AOb ((0:Int)<=pgI a/\pgI a<(g.pages.length:Int)) _
  refine⟨by omega,?_⟩
  show ABr ((g.pages.getD (pgI a).toNat default).kind==2) _ _
  by_cases hk:(g.pages.getD (pgI a).toNat default).kind=2
  ·rw[if_pos hk,show((g.pages.getD (pgI a).toNat default).kind==2)=true by simp only[beq_iff_eq];exact hk]
   refine zYE (by decide) ?_
   show ACall ..
   refine .hand [(512,16)] [(16,.vars (rkV {g with w:=zbm g a}))] [.c (.ptr 16 0 0),.int (pgI a),.int a] _ (.cons _ _ _ _ (.c _ _ (.ptr _ _ _ _ rfl)) (.cons _ _ _ _ .same (.cons _ _ _ _ .same .nil))) (.old 16 512 _ _ _ rfl rfl (.vars _ _ (zb rfl)) .nil) rfl (zs8 {g with w:=zbm g a} (pgI a) a hn0 hd) ?_
   rintro H r ⟨rfl,rfl⟩ _ _
   refine⟨rfl,.inl rfl,?_⟩
   show ARet ..
   exact zi rfl ⟨rfl,by rw[h];rfl⟩
  ·rw[if_neg hk,show((g.pages.getD (pgI a).toNat default).kind==2)=false by simp only[beq_eq_false_iff_ne];exact hk]
   refine zNO (by decide) ?_
   show ACall ..
   refine .hand [(512,16)] [(16,.vars (rkV {g with w:=zbm g a}))] [.c (.ptr 16 0 0),.int (pgI a),.int a] _ (.cons _ _ _ _ (.c _ _ (.ptr _ _ _ _ rfl)) (.cons _ _ _ _ .same (.cons _ _ _ _ .same .nil))) (.old 16 512 _ _ _ rfl rfl (.vars _ _ (zb rfl)) .nil) rfl (zs7 {g with w:=zbm g a} (pgI a) a hn0 hd (hd.kind.resolve_right hk) hs' (Nat.lt_of_le_of_lt (zlH hm _) (by unfold zk;omega))) ?_
   rintro H r ⟨rfl,rfl⟩ _ _
   refine⟨rfl,.inl rfl,?_⟩
   show ARet ..
   exact zi rfl ⟨rfl,by rw[h];rfl⟩
 ·show ABr (!decide (headE g a=0)) _ _
  rw[decide_eq_false h,if_neg h]
  refine zYE (by decide) ?_
  show ARet ..
  exact⟨[],[],_,.cons _ _ _ _ (.agg _ _ (.cons _ _ _ _ (.nilsl .int) (.cons _ _ _ _ (.nilsl .page) (.cons _ _ _ _ (.nilsl .int) (.cons _ _ _ _ (.nilsl .int) (.cons _ _ _ _ (.nilsl .int) (.cons _ _ _ _ (.nilsl .bool) .nil))))))) (.cons _ _ _ _ .same .nil),.nil,rfl,rfl,rfl⟩
def zaq (l:List Page) (n:Nat) (i:Nat):Bool:=decide (i+n<=l.length)&&((l.drop i).take n).all fun p=>decide (p.kind=0)
def zaO (l:List Page) (n:Nat):Option Nat:=(List.range l.length).find? (zaq l n)
theorem zk6 {l:List Page} {i n j:Nat} (h:j<n):((l.drop i).take n).getD j default=l.getD (i+j) default:=by
 rw[List.getD_eq_getElem?_getD,List.getD_eq_getElem?_getD,List.getElem?_take,if_pos h,List.getElem?_drop]
theorem zaB {l:List Page} {n i:Nat}:zaq l n i=true↔i+n<=l.length/\∀j,j<n->(l.getD (i+j) default).kind=0:=by
 unfold zaq
 rw[Bool.and_eq_true,decide_eq_true_eq,List.all_eq_true]
 constructor
 ·rintro⟨h1,h2⟩
  refine⟨h1,fun j hj=>?_⟩
  have:=h2 (l.getD (i+j) default) (by
   rw[←zk6 hj,List.getD_eq_getElem?_getD,List.getElem?_eq_getElem (by rw[List.length_take,List.length_drop];omega)]
   exact List.getElem_mem _)
  exact of_decide_eq_true this
 ·rintro⟨h1,h2⟩
  refine⟨h1,fun p hp=>?_⟩
  obtain⟨j,hj,rfl⟩:=List.mem_iff_getElem.1 hp
  have hj' : j<n:=by rw[List.length_take]at hj;omega
  have:=h2 j hj'
  rw[←zk6 hj',List.getD_eq_getElem?_getD,List.getElem?_eq_getElem hj]at this
  exact decide_eq_true this
theorem zr3 {l:List Page} {n:Nat} (h:∀i,i<l.length->zaq l n i=false):zaO l n=none:=by
 unfold zaO
 rw[List.find?_eq_none]
 intro i hi
 rw[h i (List.mem_range.1 hi)]
 decide
theorem zxc {l:List Page} {n i:Nat} (hi:i<l.length) (h:zaq l n i=true) (hn:∀j,j<i->zaq l n j=false):zaO l n=some i:=by
 unfold zaO
 rw[List.find?_range_eq_some]
 exact⟨h,List.mem_range.2 hi,fun j hj=>by rw[hn j hj];rfl⟩
theorem za7 {l:List Page} {n i:Nat} (h:zaO l n=some i):zaq l n i=true/\i<l.length:=by
 unfold zaO at h
 exact⟨List.find?_some h,List.mem_range.1 (List.mem_of_find?_eq_some h)⟩
theorem zlw (l:List Page) (n:Nat) (hm:zar l=true) (h1:1<=n) (h4:n<=4):Spec X 256 [] [.c (.d (.sl .page l)),.int (n:Int)] (Ret [] (.tup [.int (((zaO l n).getD 0:Nat):Int),.bo (zaO l n).isSome])):=by
 refine zGO X_ok Tryz.f256 fun hb hH=>⟨rfl,?_⟩
 have hl64:=(zab hm).2.2
 show ACall ..
 refine za (zdk l) rfl ?_
 rw[hm]
 show AIf ..
 refine⟨fun _=>?_,fun h=>absurd ⟨(by rfl),trivial⟩ h⟩
 show ACall ..
 refine za (zft (n:Int) 1 4) rfl ?_
 rw[decide_eq_true (show(1:Int)<=(n:Int)/\(n:Int)<=4 by omega)]
 refine zNO (by decide) ?_
 show ∃n,_
 refine⟨0,ALoop.inv (ι:={i:Nat // i<=l.length/\∀j,j<i->zaq l n j=false}) (fun q=>⟨[(0,.c (.d (.sl .page (l)))),(1,.int ((n:Int))),(6,.int ((q.1:Int)))],[],32⟩) (fun q=>l.length+1-q.1) ⟨0,Nat.zero_le _,fun j hj=>absurd hj (by omega)⟩ ?_ ?_⟩
 ·exact⟨[],(by repeat' first|exact .nil|refine .cons _ _ _ ?_ ?_|exact .same|exact .c _ _ (.own _ _ rfl)|exact .c _ _ (.ptr _ _ _ _ rfl)|exact .c _ _ (.frz _ _ rfl)|exact .any _),(by exact .nil),(by rfl)⟩
 rintro⟨i,hi,hn⟩
 have hi:i<=l.length:=hi
 have hn:∀j,j<i->zaq l n j=false:=hn
 have wi:IntKind.i64.wrap ((i:Int)+1)=((i+1:Nat):Int):=zad (i:=i) (by unfold zE;omega)
 have win:IntKind.i64.wrap ((i:Int)+(n:Int))=(i:Int)+(n:Int):=zB (by omega) (by omega)
 show ABr (decide (IntKind.i64.wrap ((i:Int)+(n:Int))<=(l.length:Int))) _ _
 refine⟨fun h=>?_,fun h=>?_⟩
 ·rw[win]at h
  have hin:i+n<=l.length:=by have:=of_decide_eq_true h;omega
  show AOb ((0:Int)<=(i:Int)/\(i:Int)<=(l.length:Int)) _
  refine⟨by omega,?_⟩
  have ec:cut (cut l (some (i:Int)) none) none (some (n:Int))=(l.drop i).take n:=by
   unfold cut
   simp
  have ecl:(cut l (some (i:Int)) none).length=l.length-i:=by
   unfold cut
   simp
  show AOb ((0:Int)<=(n:Int)/\(n:Int)<=((cut l (some (i:Int)) none).length:Int)) _
  refine⟨by rw[ecl];omega,?_⟩
  have el:((cut (cut l (some (i:Int)) none) none (some (n:Int))).length:Int)=(n:Int):=by rw[ec,List.length_take,List.length_drop];omega
  have erl:((l.drop i).take n).length=n:=by rw[List.length_take,List.length_drop];omega
  show ∃n,_
  refine⟨0,ALoop.inv (ι:={k:Nat // k<=n/\∀j,j<k->(l.getD (i+j) default).kind=0}) (fun q=>⟨[(0,.c (.d (.sl .page (l)))),(1,.int ((n:Int))),(6,.int ((i:Int))),(29,.c (.d (.sl .page (((l.drop i).take n))))),(30,.int ((n:Int))),(31,.int ((q.1:Int)))],[],32⟩) (fun q=>n-q.1) ⟨0,Nat.zero_le _,fun j hj=>absurd hj (by omega)⟩ ?_ ?_⟩
  ·exact⟨[],(by repeat' first|exact .nil|refine .cons _ _ _ ?_ ?_|exact .sl_eq (k:=.page) ec|exact .int_eq el|exact .same|exact .c _ _ (.own _ _ rfl)|exact .c _ _ (.ptr _ _ _ _ rfl)|exact .c _ _ (.frz _ _ rfl)|exact .any _),(by exact .nil),(by rfl)⟩
  rintro⟨k,hk,hz⟩
  have hk:k<=n:=hk
  have hz:∀j,j<k->(l.getD (i+j) default).kind=0:=hz
  show ABr (decide ((k:Int)<(n:Int))) _ _
  refine⟨fun h=>?_,fun h=>?_⟩
  ·have hkn:k<n:=by have:=of_decide_eq_true h;omega
   have wk:IntKind.i64.wrap ((k:Int)+1)=((k+1:Nat):Int):=zad (i:=k) (by unfold zE;omega)
   show AOb ((0:Int)<=(k:Int)/\(k:Int)<(((l.drop i).take n).length:Int)) _
   refine⟨by rw[erl];omega,?_⟩
   show ABr ((((l.drop i).take n).getD k default).kind != 0) _ _
   rw[zk6 hkn]
   refine⟨fun h=>?_,fun h=>?_⟩
   ·have hf:zaq l n i=false:=by
     cases hf:zaq l n i with
     |false=>rfl
     |true=>rw[(zaB.1 hf).2 k hkn]at h;exact absurd h (by decide)
    have hnn:∀j,j<i+1->zaq l n j=false:=fun j hj=>by
     by_cases e:j=i
     ·rw[e];exact hf
     ·exact hn j (by omega)
    show ARound ..
    exact⟨⟨i+1,by omega,hnn⟩,(by dsimp only;omega),[],(by repeat' first|exact .nil|refine .cons _ _ _ ?_ ?_|exact .int_eq wi|exact .same|exact .c _ _ (.own _ _ rfl)|exact .c _ _ (.ptr _ _ _ _ rfl)|exact .c _ _ (.frz _ _ rfl)|exact .any _),(by exact .nil),(by rfl)⟩
   ·have h0:(l.getD (i+k) default).kind=0:=by simpa using h
    have hzz:∀j,j<k+1->(l.getD (i+j) default).kind=0:=fun j hj=>by
     by_cases e:j=k
     ·rw[e];exact h0
     ·exact hz j (by omega)
    show ARound ..
    exact⟨⟨k+1,hkn,hzz⟩,(by dsimp only;omega),[],(by repeat' first|exact .nil|refine .cons _ _ _ ?_ ?_|exact .int_eq wk|exact .same|exact .c _ _ (.own _ _ rfl)|exact .c _ _ (.ptr _ _ _ _ rfl)|exact .c _ _ (.frz _ _ rfl)|exact .any _),(by exact .nil),(by rfl)⟩
  ·have hkn:k=n:=by have:=of_decide_eq_false h;omega
   have e:zaO l n=some i:=zxc (by omega) (zaB.2 ⟨hin,by rw[←hkn];exact hz⟩) hn
   rw[e]
   show ARet ..
   exact zi rfl ⟨rfl,rfl⟩
 ·rw[win]at h
  have hin:l.length<i+n:=by have:=of_decide_eq_false h;omega
  have e:zaO l n=none:=zr3 fun j hj=>by
   by_cases hji:j<i
   ·exact hn j hji
   ·cases hf:zaq l n j with
    |false=>rfl
    |true=>have:=(zaB.1 hf).1;omega
  rw[e]
  show ARet ..
  exact zi rfl ⟨rfl,rfl⟩
theorem zpZ (l:List Page) (hz:∀j,j<l.length->(l.getD j default).kind=0):Spec X 276 [] [.c (.d (.sl .page l)),.int 0] (Ret [] (.int (l.length:Int))):=by
 refine zGO X_ok Tryz.f276 fun hb hH=>⟨rfl,?_⟩
 have hlm:l.length<=zE:=(hb (.c (.d (.sl .page l))) (by simp)).1
 show ∃n,_
 refine⟨0,ALoop.inv (ι:={k:Nat // k<=l.length}) (fun q=>⟨[(1,.int (0)),(5,.int ((q.1:Int))),(8,.c (.d (.sl .page (l)))),(9,.int ((l.length:Int))),(10,.int ((q.1:Int)))],[],32⟩) (fun q=>l.length-q.1) ⟨0,Nat.zero_le _⟩ ?_ ?_⟩
 ·exact⟨[],(by repeat' first|exact .nil|refine .cons _ _ _ ?_ ?_|exact .same|exact .c _ _ (.own _ _ rfl)|exact .c _ _ (.ptr _ _ _ _ rfl)|exact .c _ _ (.frz _ _ rfl)|exact .any _),(by exact .nil),(by rfl)⟩
 rintro⟨k,hk⟩
 have hk:k<=l.length:=hk
 show ABr (decide ((k:Int)<(l.length:Int))) _ _
 refine⟨fun h=>?_,fun h=>?_⟩
 ·have hkl:k<l.length:=by have:=of_decide_eq_true h;omega
  have wk:IntKind.i64.wrap ((k:Int)+1)=((k+1:Nat):Int):=zad (i:=k) (by omega)
  show AOb ((0:Int)<=(k:Int)/\(k:Int)<(l.length:Int)) _
  refine⟨by omega,?_⟩
  show ABr ((l.getD k default).kind==0) _ _
  rw[show((l.getD k default).kind==0)=true by simpa using hz k hkl]
  refine zYE (by decide) ?_
  show ARound ..
  exact⟨⟨k+1,hkl⟩,(by dsimp only;omega),[],(by repeat' first|exact .nil|refine .cons _ _ _ ?_ ?_|exact .int_eq wk|exact .same|exact .c _ _ (.own _ _ rfl)|exact .c _ _ (.ptr _ _ _ _ rfl)|exact .c _ _ (.frz _ _ rfl)|exact .any _),(by exact .nil),(by rfl)⟩
 ·have hkl:k=l.length:=by have:=of_decide_eq_false h;omega
  show ARet ..
  refine zaZ (x:=(k:Int)) (by rw[hkl]) ⟨rfl,rfl⟩
theorem zlo (l:List Page) (i n:Nat) (hm:zar l=true) (hf:zaq l n i=true):Spec X 269 [] [.c (.d (.sl .page l)),.int (i:Int),.int (n:Int)] (Ret [] (.int 0)):=by
 refine zGO X_ok Tryz.f269 fun hb hH=>⟨rfl,?_⟩
 have hl64:=(zab hm).2.2
 obtain⟨h1,h2⟩:=zaB.1 hf
 have wl:IntKind.i64.wrap ((l.length:Int)-(n:Int))=(l.length:Int)-(n:Int):=zB (by omega) (by omega)
 show ABr (bif decide ((i:Int)<0) then true else decide ((i:Int)>IntKind.i64.wrap ((l.length:Int)-(n:Int)))) _ _
 rw[decide_eq_false (show ¬(i:Int)<0 by omega),wl,decide_eq_false (show ¬(i:Int)>(l.length:Int)-(n:Int) by omega)]
 refine zNO (by decide) ?_
 show AOb ((0:Int)<=(i:Int)/\(i:Int)<=(l.length:Int)) _
 refine⟨by omega,?_⟩
 have ec:cut (cut l (some (i:Int)) none) none (some (n:Int))=(l.drop i).take n:=by
  unfold cut
  simp
 have ecl:(cut l (some (i:Int)) none).length=l.length-i:=by
  unfold cut
  simp
 show AOb ((0:Int)<=(n:Int)/\(n:Int)<=((cut l (some (i:Int)) none).length:Int)) _
 refine⟨by rw[ecl];omega,?_⟩
 have erl:((l.drop i).take n).length=n:=by rw[List.length_take,List.length_drop];omega
 have hc:=zpZ ((l.drop i).take n) (fun j hj=>by rw[zk6 (by omega)];exact h2 j (by omega))
 rw[←ec]at hc
 show ACall ..
 refine za (hc) rfl ?_
 show ABr (decide (((cut (cut l (some (i:Int)) none) none (some (n:Int))).length:Int)<(n:Int))) _ _
 rw[ec,erl]
 refine zNO (by simp) ?_
 show ARet ..
 exact zi rfl ⟨rfl,rfl⟩
theorem zp2 (l:List Page) (i:Nat) (k:Int) (hm:zar l=true) (hk:0<=k/\k<=2) (hf:zaq l 1 i=true):Spec X 266 [] [.c (.d (.sl .page l)),.int (i:Int),.int k] (Ret [] (.tup [.c (.d (.sl .page (zbk l i [⟨1,k⟩]))),.int 0])):=by
 refine Spec.fz (zGO zmN Tryz.f266 fun hb hH=>⟨rfl,?_⟩)
 obtain⟨h1,h2⟩:=zaB.1 hf
 show ACall ..
 refine za ((zdk l).uz) rfl ?_
 rw[hm]
 show AIf ..
 refine⟨fun _=>?_,fun h=>absurd ⟨(by rfl),trivial⟩ h⟩
 show ACall ..
 refine za ((zft k 0 2).uz) rfl ?_
 rw[decide_eq_true hk]
 refine zNO (by decide) ?_
 show ACall ..
 refine za ((zlo l i 1 hm hf).uz) rfl ?_
 refine zNO (by decide) ?_
 have hp:=zhE l [⟨1,k⟩] (i:Int) hm (by omega) (by omega)
 rw[show(i:Int).toNat=i from rfl]at hp
 show ACall ..
 refine za (hp.uz) rfl ?_
 show ARet ..
 exact zi rfl ⟨rfl,rfl⟩
abbrev u64 (n:Int):TV:=.c (.d (.lit (.int .u64 n)))
theorem zr2 (n:Int) (hn:n=1\/n=2\/n=3\/n=4):Spec X 279 [] [u64 1,u64 n] (Ret [] (.tup [u64 0,u64 n])):=by
 refine zGO X_ok Tryz.f279 fun hb hH=>⟨rfl,?_⟩
 rcases hn with rfl|rfl|rfl|rfl
 ·show AOb ..
  refine⟨by decide,?_⟩
  show AOb ..
  refine⟨by decide,?_⟩
  show AOb ..
  refine⟨by decide,?_⟩
  show AOb ..
  refine⟨by decide,?_⟩
  show AOb ..
  refine⟨by decide,?_⟩
  show ARet ..
  exact zi rfl ⟨rfl,rfl⟩
 ·show AOb ..
  refine⟨by decide,?_⟩
  show AOb ..
  refine⟨by decide,?_⟩
  show AOb ..
  refine⟨by decide,?_⟩
  show AOb ..
  refine⟨by decide,?_⟩
  show AOb ..
  refine⟨by decide,?_⟩
  show ARet ..
  exact zi rfl ⟨rfl,rfl⟩
 ·show AOb ..
  refine⟨by decide,?_⟩
  show AOb ..
  refine⟨by decide,?_⟩
  show AOb ..
  refine⟨by decide,?_⟩
  show AOb ..
  refine⟨by decide,?_⟩
  show AOb ..
  refine⟨by decide,?_⟩
  show ARet ..
  exact zi rfl ⟨rfl,rfl⟩
 ·show AOb ..
  refine⟨by decide,?_⟩
  show AOb ..
  refine⟨by decide,?_⟩
  show AOb ..
  refine⟨by decide,?_⟩
  show AOb ..
  refine⟨by decide,?_⟩
  show AOb ..
  refine⟨by decide,?_⟩
  show ARet ..
  exact zi rfl ⟨rfl,rfl⟩
theorem zi8 (n:Int) (hn:n=1\/n=2\/n=3\/n=4):Spec X 277 [] [u64 1,u64 n] (Ret [] (.tup [u64 0,u64 n])):=by
 refine zGO X_ok Tryz.f277 fun hb hH=>⟨rfl,?_⟩
 refine zNO (by decide) ?_
 show ACall ..
 refine za (zr2 n hn) rfl ?_
 show ARet ..
 exact zi rfl ⟨rfl,rfl⟩
set_option maxHeartbeats 4000000 in
theorem zpz (n:Nat) (h1:1<=n) (h4:n<=4):Spec X 270 [] [.c (.d (.sl .page [⟨3,0⟩])),.int (n:Int)] (Ret [(0,.data .page (List.replicate n ⟨3,0⟩))] (.c (.own 0))):=by
 refine zGO X_ok Tryz.f270 fun hb hH=>⟨rfl,?_⟩
 have hn:n=1\/n=2\/n=3\/n=4:=by omega
 rcases hn with rfl|rfl|rfl|rfl
 ·refine zNO (by decide) ?_
  show ACall ..
  refine za (zi8 1 (by decide)) rfl ?_
  refine zNO (by decide) ?_
  show AOb ..
  refine⟨by decide,?_⟩
  show ∃n,_
  refine⟨4,?_⟩
  show ALoop ..
  refine .next ?_
  refine zNO (by decide) ?_
  show ARet ..
  exact⟨[(736,0)],[(0,.data .page (List.replicate 1 ⟨3,0⟩))],[.c (.own 0)],.cons _ _ _ _ (.c _ _ (.own1 _ _)) .nil,.old 0 736 _ _ _ rfl rfl (.data_eq rfl) .nil,rfl,rfl,rfl⟩
 ·refine zNO (by decide) ?_
  show ACall ..
  refine za (zi8 2 (by decide)) rfl ?_
  refine zNO (by decide) ?_
  show AOb ..
  refine⟨by decide,?_⟩
  show ∃n,_
  refine⟨4,?_⟩
  show ALoop ..
  refine .next ?_
  refine zYE (by decide) ?_
  show AOb ..
  refine⟨by decide,?_⟩
  show AOb ..
  refine⟨by decide,?_⟩
  show ALoop ..
  refine .next ?_
  refine zNO (by decide) ?_
  show ARet ..
  exact⟨[(736,0)],[(0,.data .page (List.replicate 2 ⟨3,0⟩))],[.c (.own 0)],.cons _ _ _ _ (.c _ _ (.own1 _ _)) .nil,.old 0 736 _ _ _ rfl rfl (.data_eq rfl) .nil,rfl,rfl,rfl⟩
 ·refine zNO (by decide) ?_
  show ACall ..
  refine za (zi8 3 (by decide)) rfl ?_
  refine zNO (by decide) ?_
  show AOb ..
  refine⟨by decide,?_⟩
  show ∃n,_
  refine⟨4,?_⟩
  show ALoop ..
  refine .next ?_
  refine zYE (by decide) ?_
  show AOb ..
  refine⟨by decide,?_⟩
  show AOb ..
  refine⟨by decide,?_⟩
  show ALoop ..
  refine .next ?_
  refine zYE (by decide) ?_
  show AOb ..
  refine⟨by decide,?_⟩
  show AOb ..
  refine⟨by decide,?_⟩
  show ALoop ..
  refine .next ?_
  refine zNO (by decide) ?_
  show ARet ..
  exact⟨[(736,0)],[(0,.data .page (List.replicate 3 ⟨3,0⟩))],[.c (.own 0)],.cons _ _ _ _ (.c _ _ (.own1 _ _)) .nil,.old 0 736 _ _ _ rfl rfl (.data_eq rfl) .nil,rfl,rfl,rfl⟩
 ·refine zNO (by decide) ?_
  show ACall ..
  refine za (zi8 4 (by decide)) rfl ?_
  refine zNO (by decide) ?_
  show AOb ..
  refine⟨by decide,?_⟩
  show ∃n,_
  refine⟨4,?_⟩
  show ALoop ..
  refine .next ?_
  refine zYE (by decide) ?_
  show AOb ..
  refine⟨by decide,?_⟩
  show AOb ..
  refine⟨by decide,?_⟩
  show ALoop ..
  refine .next ?_
  refine zYE (by decide) ?_
  show AOb ..
  refine⟨by decide,?_⟩
  show AOb ..
  refine⟨by decide,?_⟩
  show ALoop ..
  refine .next ?_
  refine zNO (by decide) ?_
  show ARet ..
  exact⟨[(736,0)],[(0,.data .page (List.replicate 4 ⟨3,0⟩))],[.c (.own 0)],.cons _ _ _ _ (.c _ _ (.own1 _ _)) .nil,.old 0 736 _ _ _ rfl rfl (.data_eq rfl) .nil,rfl,rfl,rfl⟩
theorem FrC.frz_e {D:List Nat} {h:zg} {x:CV} {k:EK} {l m:List k.T} (h1:zbF (fun b=>D.contains b) h 8 x=some (.sl k l)) (e:l=m):FrC D h x (.d (.sl k m)):=by subst e;exact .frz _ _ h1
theorem zqY (l:List Page) (i n:Nat) (hm:zar l=true) (h1:1<=n) (h4:n<=4) (hf:zaq l n i=true):Spec X 257 [] [.c (.d (.sl .page l)),.int (i:Int),.int (n:Int)] (Ret [] (.tup [.c (.d (.sl .page (zbk l i (⟨2,n⟩::List.replicate (n-1) ⟨3,0⟩)))),.int 0])):=by
 refine Spec.fz (zGO zmN Tryz.f257 fun hb hH=>⟨rfl,?_⟩)
 obtain⟨k1,k2⟩:=zaB.1 hf
 show ACall ..
 refine za ((zdk l).uz) rfl ?_
 rw[hm]
 show AIf ..
 refine⟨fun _=>?_,fun h=>absurd ⟨(by rfl),trivial⟩ h⟩
 show ACall ..
 refine za ((zft (n:Int) 1 4).uz) rfl ?_
 rw[decide_eq_true (show(1:Int)<=(n:Int)/\(n:Int)<=4 by omega)]
 refine zNO (by decide) ?_
 show ACall ..
 refine za ((zlo l i n hm hf).uz) rfl ?_
 refine zNO (by decide) ?_
 show ACall ..
 refine .mk _ (zpz n h1 h4).uz fun H r ⟨eH,er⟩ _ _=>⟨.inl rfl,?_⟩
 subst eH er
 show AOb ((0:Int)<=0/\(0:Int)<((List.replicate n (⟨3,0⟩:Page)).length:Int)) _
 refine⟨by rw[List.length_replicate];omega,?_⟩
 show AOb (0<(List.replicate n (⟨3,0⟩:Page)).length) _
 refine⟨by rw[List.length_replicate];omega,?_⟩
 have hp:=zhE l (⟨2,n⟩::List.replicate (n-1) ⟨3,0⟩) (i:Int) hm (by omega) (by omega)
 rw[show(i:Int).toNat=i from rfl]at hp
 have es:(List.replicate n (⟨3,0⟩:Page)).set (Int.toNat 0) ⟨2,n⟩=⟨2,n⟩::List.replicate (n-1) ⟨3,0⟩:=by
  obtain⟨m,rfl⟩:∃m,n=m+1:=⟨n-1,by omega⟩
  rfl
 show ACall ..
 refine .frz [672] [] [.c (.d (.sl .page l)),.int (i:Int),.c (.d (.sl .page (⟨2,n⟩::List.replicate (n-1) ⟨3,0⟩)))] _ rfl .nil (.cons _ _ _ _ (.c _ _ (.same _)) (.cons _ _ _ _ (.c _ _ (.same _)) (.cons _ _ _ _ (.c _ _ (.frz_e (k:=.page) rfl es)) .nil))) rfl hp.uz ?_
 rintro H r ⟨rfl,rfl⟩ _ _
 show ARet ..
 exact zi rfl ⟨rfl,rfl⟩
theorem zvJ (w:List Int) (i:Nat) (hw:zbo w=true) (hi:16*(i+1)<=w.length):Spec X 258 [] [.c (.d (.sl .int w)),.int (i:Int)] (Ret [] (.tup [.int (16*((i:Int)+1)),.int 0])):=by
 refine zGO X_ok Tryz.f258 fun hb hH=>⟨rfl,?_⟩
 have h1:=(of_decide_eq_true hw:_)
 show ACall ..
 refine za (zfA w) rfl ?_
 rw[hw]
 refine zNO (by decide) ?_
 show ABr (decide ((i:Int)<0)) _ _
 rw[decide_eq_false (show ¬(i:Int)<0 by omega)]
 refine zNO (by decide) ?_
 show AOb ..
 refine⟨by decide,?_⟩
 show ABr (decide ((i:Int)>=tdv (w.length:Int) 16)) _ _
 rw[zmP (by omega) (by decide) (by omega),decide_eq_false (show ¬(i:Int)>=(w.length:Int) / 16 by omega)]
 refine zNO (by decide) ?_
 have e:IntKind.i64.wrap (IntKind.i64.wrap ((i:Int)+1)*16)=16*((i:Int)+1):=by
  rw[zB (n:=(i:Int)+1) (by omega) (by omega),zB (by omega) (by omega)];omega
 show ARet ..
 exact⟨[],[],[.int (16*((i:Int)+1)),.int 0],.cons _ _ _ _ (.int_eq e) (.cons _ _ _ _ .same .nil),.nil,rfl,rfl,rfl⟩
end Go.Abs
namespace Go.Abs
set_option maxRecDepth 8000
def startsOn (l:List Page) (i:Nat):List Int:=(zD (l.getD i default) (16*((i:Int)+1))).map (·.1)
def zcW (w:List Int):List Int->List Int
 |[]=>w
 |a::r=>zcW (w.set (a-16).toNat 0) r
theorem zmi (a:Int):∀(l w:List Int),zcW w (l++[a])=(zcW w l).set (a-16).toNat 0
 |[],w=>rfl
 |x::r,w=>zmi a r _
theorem zea:∀(l w:List Int),(zcW w l).length=w.length
 |[],w=>rfl
 |x::r,w=>by unfold zcW;rw[zea r,List.length_set]
def zL (g:Hp) (k:Int):Hp:=match zaO g.pages 1 with
 |some i=>⟨zcW g.w (startsOn (zbk g.pages i [⟨1,k⟩]) i).reverse,zbk g.pages i [⟨1,k⟩],g.free.set_ k (g.free.at_ k++(startsOn (zbk g.pages i [⟨1,k⟩]) i).reverse),g.cards⟩
 |none=>g
def ze1 (g:Hp):Int:=match zaO g.pages 1 with
 |some _=>0
 |none=>4
theorem zaQ {g:Hp} {i:Nat} (h:zaO g.pages 1=some i) (k:Int):zL g k=⟨zcW g.w (startsOn (zbk g.pages i [⟨1,k⟩]) i).reverse,zbk g.pages i [⟨1,k⟩],g.free.set_ k (g.free.at_ k++(startsOn (zbk g.pages i [⟨1,k⟩]) i).reverse),g.cards⟩/\ze1 g=0:=by
 unfold zL ze1;rw[h];exact⟨rfl,rfl⟩
theorem zaP {g:Hp} (h:zaO g.pages 1=none) (k:Int):zL g k=g/\ze1 g=4:=by
 unfold zL ze1;rw[h];exact⟨rfl,rfl⟩
theorem zuE (l:List Page) (i:Nat) (q:Page) (hi:i<l.length):(zbk l i [q]).length=l.length:=by
 rw[zje (by show i+1<=l.length;omega)]
 simp;omega
theorem zl9 {l:List Page} {i n:Nat} {X:List Page} (hX:X.length=n) (h:zaq l n i=true):zbk l i X=l.take i++X++l.drop (i+n):=by
 obtain⟨h1,_⟩:=zaB.1 h
 rw[zje (by omega),hX]
theorem zc0 {l:List Page} {i n:Nat} {X:List Page} (hX:X.length=n) (h:zaq l n i=true):(zbk l i X).length=l.length:=by
 obtain⟨h1,_⟩:=zaB.1 h
 rw[zl9 hX h,List.length_append,List.length_append,List.length_take,List.length_drop,hX]
 omega
theorem zjk {B:List Page}:∀(R:List Page),(∀p∈R,p.kind=0)->∀r:Int,0<=r->R≠[]->pgo r (R++B)=true->r=0/\pgo 0 B=true
 |[],_,_,_,hne,_=>absurd rfl hne
 |[p],hz,r,h0,_,h=>by
  have hk:=hz p (List.mem_singleton_self p)
  simp only[List.cons_append,List.nil_append,pgo,hk]at h
  simp at h
  have:r=0:=by omega
  subst this
  exact⟨rfl,h.2⟩
 |p::q::R,hz,r,h0,_,h=>by
  have hk:=hz p (List.mem_cons_self ..)
  simp only[List.cons_append,pgo,hk]at h
  simp at h
  have:r=0:=by omega
  subst this
  obtain⟨_,h2⟩:=zjk (B:=B) (q::R) (fun x hx=>hz x (List.mem_cons_of_mem _ hx)) 0 (Int.le_refl 0) (by simp) (by simpa [pgo] using h.2)
  exact⟨rfl,h2⟩
theorem zlP {R X B:List Page} (hR:R≠[]) (hz:∀p∈R,p.kind=0) (hX:pgo 0 B=true->pgo 0 (X++B)=true):∀(A:List Page) (r:Int),0<=r->(∀p∈A,zbv p)->pgo r (A++(R++B))=true->pgo r (A++(X++B))=true
 |[],r,h0,_,h=>by
  obtain⟨e,hB⟩:=zjk R hz r h0 hR h
  subst e
  exact hX hB
 |p::A,r,h0,ha,h=>by
  simp only[List.cons_append,pgo]at h ⊢
  have hp:=ha p (List.mem_cons_self ..)
  have ha':=fun x hx=>ha x (List.mem_cons_of_mem _ hx)
  cases h3:decide (p.kind=3) with
  |true=>
   rw[h3]at h
   simp only[cond_true,Bool.and_eq_true]at h ⊢
   refine⟨h.1,zlP hR hz hX A (r-1) ?_ ha' h.2⟩
   have:=h.1.1
   simp at this
   omega
  |false=>
   rw[h3]at h
   simp only[cond_false,Bool.and_eq_true]at h ⊢
   refine⟨h.1,zlP hR hz hX A _ ?_ ha' h.2⟩
   split
   ·have:=(hp.2 (by assumption)).1;omega
   ·exact h0
theorem zw9 {l:List Page} {i n:Nat} (h:zaq l n i=true):l=l.take i++((l.drop i).take n++l.drop (i+n))/\∀p∈(l.drop i).take n,p.kind=0:=by
 refine⟨?_,fun p hp=>?_⟩
 ·rw[←List.drop_drop,List.take_append_drop,List.take_append_drop]
 ·unfold zaq at h
  rw[Bool.and_eq_true,List.all_eq_true]at h
  exact of_decide_eq_true (h.2 p hp)
theorem ztZ {l:List Page} {i n:Nat} {X:List Page} (hm:zar l=true) (h:zaq l n i=true) (hn:1<=n) (hXn:X.length=n) (hX:∀B,pgo 0 B=true->pgo 0 (X++B)=true):zar (zbk l i X)=true:=by
 obtain⟨k1,k2⟩:=zaB.1 h
 have hok:=(zab hm).1
 unfold zar at hm ⊢
 rw[Bool.and_eq_true,decide_eq_true_eq]at hm
 rw[zc0 hXn h,Bool.and_eq_true,decide_eq_true_eq]
 refine⟨?_,hm.2⟩
 rw[zl9 hXn h,List.append_assoc]
 obtain⟨e,hz⟩:=zw9 h
 refine zlP (R:=(l.drop i).take n) (fun e=>?_) hz (hX _) (l.take i) 0 (Int.le_refl 0) (fun p hp=>?_) (by rw[←e];exact hm.1)
 ·have:=congrArg List.length e
  rw[List.length_take,List.length_drop]at this
  simp at this;omega
 ·exact zwz hm.1 p (List.mem_of_mem_take hp)
theorem zhA {l:List Page} {i:Nat} {k:Int} (hm:zar l=true) (h:zaq l 1 i=true) (hk:0<=k/\k<=2):zar (zbk l i [⟨1,k⟩])=true:=
 ztZ hm h (Nat.le_refl _) rfl fun B hB=>by simp[pgo,zag,hk,hB]
theorem znf {B:List Page} (hB:pgo 0 B=true):∀n:Nat,pgo (n:Int) (List.replicate n ⟨3,0⟩++B)=true
 |0=>hB
 |n+1=>by
  rw[List.replicate_succ,List.cons_append,zmc (by omega),show((n+1:Nat):Int)-1=(n:Int) by omega,znf hB n]
  rfl
theorem zki {l:List Page} {i n:Nat} (hm:zar l=true) (h:zaq l n i=true) (hn:1<=n) (h4:n<=4):zar (zbk l i (⟨2,n⟩::List.replicate (n-1) ⟨3,0⟩))=true:=
 ztZ hm h hn (by simp;omega) fun B hB=>by
  have:=znf hB (n-1)
  rw[show((n-1:Nat):Int)=(n:Int)-1 by omega]at this
  simp[pgo,zag,this]
  omega
theorem zcE {l:List Page} {i:Nat} (hp:zbv (l.getD i default)) {a:Int} (h:a∈startsOn l i):16*((i:Int)+1)<=a/\a<16*((i:Int)+1)+16:=by
 unfold startsOn at h
 obtain⟨x,hx,rfl⟩:=List.mem_map.1 h
 rcases zgC hp hx with⟨hk,_,k,k1,k2⟩|⟨_,k⟩
 ·have hc:=hp.1 hk
  rcases zhV hc with⟨w,v⟩|⟨w,v⟩|⟨w,v⟩<;>rw[w]at k2<;>rw[v]at k1<;>omega
 ·rw[k];show _<=16*((i:Int)+1)/\16*((i:Int)+1)<_;omega
theorem zf3 (l:List Page) (i:Nat):(startsOn l i).length<=8:=by unfold startsOn;rw[List.length_map];exact zha _ _
theorem zgM {l:List Page} {i:Nat} {k:Int} (hk:0<=k/\k<=2) (hi:i<l.length):2<=(startsOn (zbk l i [⟨1,k⟩]) i).length:=by
 have e:(zbk l i [⟨1,k⟩]).getD i default=⟨1,k⟩:=by
  rw[zje (by show i+1<=l.length;omega),List.getD_eq_getElem?_getD,List.append_assoc,List.getElem?_append_right (by rw[List.length_take];omega),List.length_take,show i-min i l.length=0 by omega]
  rfl
 unfold startsOn
 rw[e,List.length_map]
 unfold zD
 rw[if_neg (show ¬(1:Int)=2 by decide),if_pos rfl,List.length_map,List.length_range]
 rcases zhV hk with⟨_,v⟩|⟨_,v⟩|⟨_,v⟩<;>rw[v]<;>decide
def zS (g:Hp) (c:Lists) (k:Int):Int:=if c.at_ k=[]/\g.free.at_ k=[] then ze1 g else 0
def refG (g:Hp) (c:Lists) (k:Int):Hp:=if c.at_ k=[]/\g.free.at_ k=[] then zL g k else g
def zhU (g:Hp) (c:Lists) (k:Int):List Int:=if c.at_ k=[] then ((refG g c k).free.at_ k).take (leftOf ((refG g c k).free.at_ k).length 2) else g.free.at_ k
def zcP (g:Hp) (c:Lists) (k:Int):List Int:=if c.at_ k=[] then (((refG g c k).free.at_ k).drop (leftOf ((refG g c k).free.at_ k).length 2)).reverse else c.at_ k
def zZ (g:Hp) (c:Lists) (k:Int):Hp:=if zS g c k=0 then (if c.at_ k=[] then {refG g c k with free:=(refG g c k).free.set_ k (zhU g c k)} else g) else g
def zce (g:Hp) (c:Lists) (k:Int):Lists:=if zS g c k=0 then c.set_ k ((zcP g c k).take ((zcP g c k).length-1)) else c
def zao (g:Hp) (c:Lists) (k:Int):Int:=if zS g c k=0 then at0 (zcP g c k) ((zcP g c k).length-1) else 0
theorem za5 {l:Lists} {c:Int} (h:0<=c/\c<=2) (x:List Int):(l.set_ c x).at_ c=x:=by rw[ze9 h h,if_pos rfl]
theorem set_set {l:Lists} {c:Int} (x y:List Int):(l.set_ c x).set_ c y=l.set_ c y:=by
 unfold Lists.set_
 split
 ·rfl
 ·split<;>rfl
theorem ze6 (g:Hp):ze1 g=0\/ze1 g=4:=by
 unfold ze1;split
 ·exact .inl rfl
 ·exact .inr rfl
theorem zvX {g:Hp} {k:Int} (hk:0<=k/\k<=2) (h0:g.free.at_ k=[]) (he:ze1 g=0):2<=((zL g k).free.at_ k).length/\((zL g k).free.at_ k).length<=8:=by
 cases hf:zaO g.pages 1 with
 |none=>rw[(zaP hf k).2]at he;cases he
 |some i=>
  obtain⟨_,hil⟩:=za7 hf
  rw[(zaQ hf k).1]
  show 2<=((g.free.set_ k _).at_ k).length/\((g.free.set_ k _).at_ k).length<=8
  rw[za5 hk,h0,List.nil_append,List.length_reverse]
  exact⟨zgM hk hil,zf3 _ _⟩
theorem zjf {g:Hp} {c:Lists} {k:Int} (h:zS g c k≠0):zZ g c k=g/\zce g c k=c/\zao g c k=0/\zS g c k=4/\c.at_ k=[]/\g.free.at_ k=[]/\ze1 g=4:=by
 unfold zZ zce zao
 rw[if_neg h,if_neg h,if_neg h]
 unfold zS at h ⊢
 by_cases h1:c.at_ k=[]/\g.free.at_ k=[]
 ·rw[if_pos h1]at h ⊢
  have:=(ze6 g).resolve_left h
  exact⟨rfl,rfl,rfl,this,h1.1,h1.2,this⟩
 ·rw[if_neg h1]at h;exact absurd rfl h
theorem zc4 {g:Hp} {c:Lists} {k:Int} (hk:0<=k/\k<=2) (he:zS g c k=0):0<(zcP g c k).length:=by
 unfold zcP
 by_cases h1:c.at_ k=[]
 ·rw[if_pos h1,List.length_reverse,List.length_drop]
  unfold refG leftOf
  by_cases h2:g.free.at_ k=[]
  ·rw[if_pos ⟨h1,h2⟩]
   unfold zS at he
   rw[if_pos ⟨h1,h2⟩]at he
   have:=zvX hk h2 he
   show 0<_-(_-2)
   omega
  ·rw[if_neg (fun q=>h2 q.2)]
   have:0<(g.free.at_ k).length:=List.length_pos_iff.2 h2
   show 0<_-(_-2)
   omega
 ·rw[if_neg h1];exact List.length_pos_iff.2 h1
def zcu (g:Hp) (n:Int):Option Nat:=zaO g.pages (zaV n).toNat
def zaK (g:Hp) (n:Int):Hp:=match zcu g n with
 |some i=>{g with pages:=zbk g.pages i (⟨2,zaV n⟩::List.replicate ((zaV n).toNat-1) ⟨3,0⟩)}
 |none=>g
def za0 (g:Hp) (n:Int):Int:=match zcu g n with
 |some i=>16*((i:Int)+1)
 |none=>0
def zbZ (g:Hp) (n:Int):Int:=match zcu g n with
 |some _=>0
 |none=>4
theorem zef {g:Hp} {n:Int} {i:Nat} (h:zcu g n=some i):zaK g n={g with pages:=zbk g.pages i (⟨2,zaV n⟩::List.replicate ((zaV n).toNat-1) ⟨3,0⟩)}/\za0 g n=16*((i:Int)+1)/\zbZ g n=0:=by
 unfold zaK za0 zbZ;rw[h];exact⟨rfl,rfl,rfl⟩
theorem zev {g:Hp} {n:Int} (h:zcu g n=none):zaK g n=g/\za0 g n=0/\zbZ g n=4:=by
 unfold zaK za0 zbZ;rw[h];exact⟨rfl,rfl,rfl⟩
theorem zhg {l:List Page} (hm:zar l=true) {x:Int×Int}:x∈cellsAll l↔∃j,j<l.length/\x∈zD (l.getD j default) (16*((j:Int)+1)):=by
 constructor
 ·intro h
  obtain⟨_,j,hj⟩:=zap h
  exact⟨j,hj.lt,hj.mem⟩
 ·rintro⟨j,hj,hx⟩
  unfold cellsAll
  rw[if_pos hm]
  unfold zae
  rw[List.drop_zero,List.mem_flatMap]
  exact⟨j,List.mem_range.2 hj,hx⟩
theorem zf4 {l X:List Page} {i n:Nat} (hX:X.length=n) (h:zaq l n i=true) (j:Nat):(zbk l i X).getD j default=if i<=j/\j<i+n then X.getD (j-i) default else l.getD j default:=by
 obtain⟨h1,_⟩:=zaB.1 h
 rw[zl9 hX h,List.getD_eq_getElem?_getD,List.append_assoc]
 by_cases k1:j<i
 ·rw[if_neg (by omega),List.getElem?_append_left (by rw[List.length_take];omega),List.getElem?_take,if_pos k1,List.getD_eq_getElem?_getD]
 ·rw[List.getElem?_append_right (by rw[List.length_take];omega),List.length_take,show j-min i l.length=j-i by omega]
  by_cases k2:j<i+n
  ·rw[if_pos ⟨by omega,k2⟩,List.getElem?_append_left (by omega),List.getD_eq_getElem?_getD]
  ·rw[if_neg (by omega),List.getElem?_append_right (by omega),List.getElem?_drop,List.getD_eq_getElem?_getD,hX,show i+n+(j-i-n)=j by omega]
theorem zjG {l X:List Page} {i n:Nat} (hm:zar l=true) (hX:X.length=n) (h:zaq l n i=true) (hm' : zar (zbk l i X)=true) {x:Int×Int} :
  x∈cellsAll (zbk l i X)↔x∈cellsAll l\/∃j,i<=j/\j<i+n/\x∈zD (X.getD (j-i) default) (16*((j:Int)+1)):=by
 obtain⟨h1,h2⟩:=zaB.1 h
 rw[zhg hm',zhg hm,zc0 hX h]
 constructor
 ·rintro⟨j,hj,hx⟩
  rw[zf4 hX h]at hx
  by_cases k:i<=j/\j<i+n
  ·rw[if_pos k]at hx;exact .inr ⟨j,k.1,k.2,hx⟩
  ·rw[if_neg k]at hx;exact .inl ⟨j,hj,hx⟩
 ·rintro (⟨j,hj,hx⟩|⟨j,k1,k2,hx⟩)
  ·refine⟨j,hj,?_⟩
   rw[zf4 hX h,if_neg]
   ·exact hx
   ·rintro⟨k1,k2⟩
    have:=h2 (j-i) (by omega)
    rw[show i+(j-i)=j by omega]at this
    unfold zD at hx
    rw[if_neg (by omega),if_neg (by omega)]at hx
    cases hx
  ·refine⟨j,by omega,?_⟩
   rw[zf4 hX h,if_pos ⟨k1,k2⟩]
   exact hx
theorem zgJ {l:List Page} (hm:zar l=true) {i:Nat} (hi:i<l.length) {a:Int} (h:a∈startsOn l i):ze l a≠0:=by
 unfold startsOn at h
 obtain⟨x,hx,rfl⟩:=List.mem_map.1 h
 have hc:=zdd hi ((zab hm).1 i hi) hx
 rw[zbA ((zhg hm).2 ⟨i,hi,hx⟩)]
 have:=hc.pos
 omega
theorem zvy {l:List Int} (h:0<l.length):at0 l (l.length-1)∈l:=by rw[zcT (by omega)];exact List.getElem_mem _
theorem zfL {g:Hp} {cs:List Lists} (hm:zx g cs=true) {l:Lists} (hl:l∈g.free::cs) {k:Int} (hk:0<=k/\k<=2) {a:Int} (ha:a∈l.at_ k):ze g.pages a≠0/\zO g a=⟨1,k⟩/\zf g a=0:=by
 have:=(zF.1 ((zai hm).2.1 l hl) k hk.1 hk.2 a ha)
 obtain⟨h1,h2,h3⟩:=of_decide_eq_true this
 exact⟨by omega,h2,h3⟩
theorem zkx {g:Hp} {c:Lists} {k:Int} (he:zS g c k=0):(zZ g c k).pages=(refG g c k).pages/\(zZ g c k).w=(refG g c k).w:=by
 unfold zZ
 rw[if_pos he]
 split
 ·exact⟨rfl,rfl⟩
 ·rename_i h
  unfold refG
  rw[if_neg fun q=>h q.1]
  exact⟨rfl,rfl⟩
theorem zth {g:Hp} {c:Lists} {cs:List Lists} {k:Int} (hm:zx g (c::cs)=true) (hk:0<=k/\k<=2) (he:zS g c k=0):ze (zZ g c k).pages (zao g c k)≠0:=by
 have hgp:=zc4 hk he
 have hmem:=zvy hgp
 rw[(zkx he).1]
 unfold zao
 rw[if_pos he]
 generalize at0 (zcP g c k) ((zcP g c k).length-1)=a at *
 unfold zcP at hmem
 by_cases h1:c.at_ k=[]
 ·rw[if_pos h1,List.mem_reverse]at hmem
  have hmem:=List.mem_of_mem_drop hmem
  unfold refG at hmem ⊢
  by_cases h2:g.free.at_ k=[]
  ·unfold zS at he
   rw[if_pos ⟨h1,h2⟩]at he hmem ⊢
   obtain⟨_,hmp,_⟩:=zl (zA hm)
   cases hf:zaO g.pages 1 with
   |none=>rw[(zaP hf k).2]at he;cases he
   |some i=>
    obtain⟨hfr,hil⟩:=za7 hf
    rw[(zaQ hf k).1]at hmem ⊢
    have hmem:a∈(g.free.set_ k (g.free.at_ k++(startsOn (zbk g.pages i [⟨1,k⟩]) i).reverse)).at_ k:=hmem
    rw[za5 hk,h2,List.nil_append,List.mem_reverse]at hmem
    exact zgJ (zhA hmp hfr hk) (by rw[zc0 rfl hfr];exact hil) hmem
  ·rw[if_neg fun q=>h2 q.2]at hmem ⊢
   exact(zfL hm (List.mem_cons_self ..) hk hmem).1
 ·rw[if_neg h1]at hmem
  unfold refG
  rw[if_neg fun q=>h1 q.1]
  exact(zfL hm (List.mem_cons_of_mem _ (List.mem_cons_self ..)) hk hmem).1
theorem zsY {g:Hp} {c:Lists} {k:Int}:(zZ g c k).w.length=g.w.length:=by
 unfold zZ
 split
 ·split
  ·show(refG g c k).w.length=_
   unfold refG
   split
   ·cases hf:zaO g.pages 1 with
    |none=>rw[(zaP hf k).1]
    |some i=>rw[(zaQ hf k).1];exact zea _ _
   ·rfl
  ·rfl
 ·rfl
theorem ztn {g:Hp} {c:Lists} {k:Int}:(zZ g c k).pages.length=g.pages.length:=by
 unfold zZ
 split
 ·split
  ·show(refG g c k).pages.length=_
   unfold refG
   split
   ·cases hf:zaO g.pages 1 with
    |none=>rw[(zaP hf k).1]
    |some i=>rw[(zaQ hf k).1];exact zc0 rfl (za7 hf).1
   ·rfl
  ·rfl
 ·rfl
theorem zs4 {g:Hp} {n:Int} (hmp:zar g.pages=true) (hr:1<=zaV n/\zaV n<=4) (he:zbZ g n=0):ze (zaK g n).pages (za0 g n)≠0/\(zaK g n).pages.length=g.pages.length:=by
 obtain⟨m,em⟩:∃m:Nat,zaV n=(m:Int):=⟨(zaV n).toNat,by omega⟩
 cases hf:zcu g n with
 |none=>rw[(zev hf).2.2]at he;cases he
 |some i=>
  obtain⟨e1,e2,_⟩:=zef hf
  unfold zcu at hf
  rw[em]at hf e1
  have hf:zaO g.pages m=some i:=hf
  obtain⟨hfr,hil⟩:=za7 hf
  have hXl:((⟨2,(m:Int)⟩:Page)::List.replicate (m-1) ⟨3,0⟩).length=m:=by simp;omega
  rw[e1,e2]
  refine⟨?_,zc0 hXl hfr⟩
  have hm':=zki hmp hfr (by omega) (by omega)
  have:(16*((i:Int)+1),(m:Int)*16)∈cellsAll (zbk g.pages i (⟨2,(m:Int)⟩::List.replicate (m-1) ⟨3,0⟩)):=by
   rw[zjG hmp hXl hfr hm']
   refine .inr ⟨i,Nat.le_refl _,by omega,?_⟩
   rw[Nat.sub_self]
   show _∈zD ⟨2,(m:Int)⟩ _
   unfold zD
   rw[if_pos rfl]
   exact List.mem_singleton_self _
  rw[show Int.toNat (m:Int)=m from rfl,zbA this]
  show(m:Int)*16≠0
  omega
def zaw (g:Hp) (c:Lists) (x:Hd):Int:=
 if zc5 x≠0\/x.used=false\/zx g [c]=false then 1 else if zaM x.n≠0 then zaM x.n else if clsOf x.n=3 then zbZ g x.n else zS g c (clsOf x.n)
def zeJ (g:Hp) (c:Lists) (x:Hd):Hp:=if clsOf x.n=3 then zaK g x.n else zZ g c (clsOf x.n)
def zjn (g:Hp) (c:Lists) (x:Hd):Int:=if clsOf x.n=3 then za0 g x.n else zao g c (clsOf x.n)
def zvZ (g:Hp) (c:Lists) (x:Hd):Lists:=if clsOf x.n=3 then c else zce g c (clsOf x.n)
def zbH (g:Hp) (a:Int) (v:Int):Hp:={g with w:=(zK g.w (a-16).toNat (List.replicate (ze g.pages a).toNat (0:Int))).set (a-16).toNat v}
def ze5 (g:Hp) (c:Lists) (x:Hd):Hp:=if zaw g c x=0 then zbH (zeJ g c x) (zjn g c x) x.word else Hp.zero
def zkv (g:Hp) (c:Lists) (x:Hd):Lists:=if zaw g c x=0 then zvZ g c x else Lists.zero
def zfD (g:Hp) (c:Lists) (x:Hd):Int:=if zaw g c x=0 then zjn g c x else 0
theorem zbE {g:Hp} {c:Lists} {x:Hd} (h:zaw g c x≠0):ze5 g c x=Hp.zero/\zkv g c x=Lists.zero/\zfD g c x=0:=by
 unfold ze5 zkv zfD;rw[if_neg h,if_neg h,if_neg h];exact⟨rfl,rfl,rfl⟩
theorem zgY {g:Hp} {c:Lists} {x:Hd} (h:zaw g c x=0):ze5 g c x=zbH (zeJ g c x) (zjn g c x) x.word/\zkv g c x=zvZ g c x/\zfD g c x=zjn g c x:=by
 unfold ze5 zkv zfD;rw[if_pos h,if_pos h,if_pos h];exact⟨rfl,rfl,rfl⟩
theorem zka {n:Int} (h:zaM n=0):1<=n/\n<=63/\0<=clsOf n/\clsOf n<=3/\(clsOf n=3->1<=zaV n/\zaV n<=4/\ziZ n=0):=by
 have hn:1<=n/\n<=63:=by
  unfold zaM at h
  by_cases h1:n<1
  ·rw[if_pos h1]at h;cases h
  ·by_cases h2:n>63
   ·rw[if_neg h1,if_pos h2]at h;cases h
   ·omega
 refine⟨hn.1,hn.2,?_,?_,fun h3=>?_⟩
 ·unfold clsOf;split;exact Int.le_refl _;split;exact Int.le_refl _;split;omega;split<;>omega
 ·unfold clsOf;split;omega;split;omega;split;omega;split<;>omega
 ·unfold zaV ziZ
  rw[h,h3]
  simp
  omega
theorem zeH {g:Hp} {c:Lists} {x:Hd} (h:zaw g c x=0):ze (zeJ g c x).pages (zjn g c x)≠0/\(zeJ g c x).pages.length=g.pages.length/\(zeJ g c x).w.length=g.w.length/\zx g [c]=true/\zc5 x=0/\x.used=true/\zaM x.n=0:=by
 unfold zaw at h
 split at h
 ·cases h
 ·rename_i h1
  have hp:zc5 x=0:=Classical.byContradiction fun k=>h1 (.inl k)
  have hu:x.used=true:=by
   cases hu:x.used with
   |true=>rfl
   |false=>exact absurd (.inr (.inl hu)) h1
  have hm:zx g [c]=true:=by
   cases hm:zx g [c] with
   |true=>rfl
   |false=>exact absurd (.inr (.inr hm)) h1
  split at h
  ·contradiction
  ·rename_i h2
   have hc:zaM x.n=0:=by simpa using h2
   obtain⟨c1,c2,c3,c4,c5⟩:=zka hc
   unfold zeJ zjn
   by_cases h3:clsOf x.n=3
   ·rw[if_pos h3]at h
    rw[if_pos h3,if_pos h3]
    obtain⟨r1,r2⟩:=zs4 (g:=g) (n:=x.n) (zl (zA hm)).2.1 ⟨(c5 h3).1,(c5 h3).2.1⟩ h
    refine⟨r1,r2,?_,hm,hp,hu,hc⟩
    unfold zaK
    split<;>rfl
   ·rw[if_neg h3]at h
    rw[if_neg h3,if_neg h3]
    exact⟨zth hm ⟨c3,by omega⟩ h,ztn,zsY,hm,hp,hu,hc⟩
end Go.Abs
