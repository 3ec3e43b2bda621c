/- Walks and plain laws: WTraceK, WHandK, WMutK, WCards2, WScanK, WCardsAll, WScanE, WTraceM, WSweep, WSweepK, WRefOwn, WHeapSets, WRef11, WSweepA, WCardsKeep, WCardsTwice, WSweepC, WHeapTells, WSweepE. -/
import Derived.Test.YtlankjlnnimdoaaGreatDoorPe
import Derived.Test.YtlankjlnnimdoaaGreatDoorPc
import Derived.Test.YtlankjlnnimdoaaGreatDoorPd
set_option linter.all false
namespace Go.Abs
structure Marks (g k:Hp):Prop where
 pages:k.pages=g.pages
 free:k.free=g.free
 cards:k.cards=g.cards
 len:k.w.length=g.w.length
 may:∀cs,zx k cs=zx g cs
 whole:∀cs,zq k cs=zq g cs
 used:zu k=zu g
 headE:∀u,Abs.headE k u=Abs.headE g u
 head:∀u,(headH k u).used=(headH g u).used/\(headH k u).old=(headH g u).old/\(headH k u).n=(headH g u).n/\(headH k u).born=(headH g u).born
 word:∀i:Nat,k.w.getD i default≠g.w.getD i default->16+(i:Int)∈zu g
theorem Marks.refl (g:Hp):Marks g g:=⟨rfl,rfl,rfl,rfl,fun _=>rfl,fun _=>rfl,rfl,fun _=>rfl,fun _=>⟨rfl,rfl,rfl,rfl⟩,fun _ h=>absurd rfl h⟩
theorem Marks.trans {g k m:Hp} (h:Marks g k) (h' : Marks k m):Marks g m:=by
 refine⟨h'.pages.trans h.pages,h'.free.trans h.free,h'.cards.trans h.cards,h'.len.trans h.len,fun cs=>(h'.may cs).trans (h.may cs),fun cs=>(h'.whole cs).trans (h.whole cs),h'.used.trans h.used,fun u=>(h'.headE u).trans (h.headE u),fun u=>?_,fun i hi=>?_⟩
 ·obtain⟨a1,a2,a3,a4⟩:=h.head u
  obtain⟨b1,b2,b3,b4⟩:=h'.head u
  exact⟨b1.trans a1,b2.trans a2,b3.trans a3,b4.trans a4⟩
 ·by_cases e:k.w.getD i default=g.w.getD i default
  ·have:=h'.word i (by rw[e];exact hi)
   rw[h.used]at this
   exact this
  ·exact h.word i e
theorem zbX (g:Hp) (c:Col) (a:Int):Marks g (zH g c a):=by
 obtain⟨e1,e2,e3,e4⟩:=zpt g c a
 refine⟨e1,e2,e3,e4,zmW g c a,zb5 g c a,zkM g c a,fun u=>(zeV g c a u).1,fun u=>?_,fun i hi=>?_⟩
 ·rw[(zeV g c a u).2]
  by_cases e:u=a/\atK g c a=1
  ·rw[if_pos e,e.1];exact⟨rfl,rfl,rfl,rfl⟩
  ·rw[if_neg e];exact⟨rfl,rfl,rfl,rfl⟩
 ·obtain⟨h1,h2⟩:=zkw g c a i hi
  rw[show 16+(i:Int)=a by omega]
  exact zaa.2 (zcl h2).1
theorem zkW (g:Hp) (c:Col) (a:Int):Marks g (zak g c a):=by
 obtain⟨e1,e2,e3,e4⟩:=zp4 g c a
 refine⟨e1,e2,e3,e4,zsu g c a,zjw g c a,zqc g c a,fun u=>(zeZ g c a u).1,fun u=>?_,fun i hi=>?_⟩
 ·rw[(zeZ g c a u).2]
  by_cases e:u=a/\atK g c a=2
  ·rw[if_pos e,e.1];exact⟨rfl,rfl,rfl,rfl⟩
  ·rw[if_neg e];exact⟨rfl,rfl,rfl,rfl⟩
 ·obtain⟨h1,h2⟩:=zri g c a i hi
  rw[show 16+(i:Int)=a by omega]
  exact zaa.2 (zci h2).1
def zaT (g:Hp) (c:Col) (a:Int):Int:=if atK g c a=2 then (headH g a).n else 0
def wordOf (g:Hp) (a:Int):Int:=if zbo g.w=true/\16<=a/\a<16+(g.w.length:Int) then zf g a else 0
def zle (g:Hp) (c:Col):Hp×Col:=
 if c.field_<0\/zaT g c c.at_<=c.field_ then (g,{c with at_:=0,field_:=0})
 else if c.field_+1=zaT g c c.at_ then (zak (zH g c (wordOf g (c.at_+1+c.field_))) c c.at_,{zG g c (wordOf g (c.at_+1+c.field_)) with at_:=0,field_:=0})
 else (zH g c (wordOf g (c.at_+1+c.field_)),{zG g c (wordOf g (c.at_+1+c.field_)) with field_:=c.field_+1})
def zfa (g : Hp) (c : Col) : Hp × Col :=
  if zx g [] = true /\ c.phase = 5 then
    (if c.at_ ≠ 0 then zle g c
     else if 0 < c.work.length then (g, { c with at_ := at0 c.work (c.work.length - 1), field_ := 0, work := c.work.take (c.work.length - 1) })
     else if c.seek ≠ 0 then (if zaT g c (zM g.pages c.seek) = 0 then (g, { c with seek := zM g.pages c.seek }) else (g, { c with seek := zM g.pages c.seek, at_ := zM g.pages c.seek, field_ := 0 }))
     else if c.over = true then (g, { c with over := false, seek := 1 })
     else (g, { c with phase := 6, at_ := 0, field_ := 0, seek := 0, card := 0, met := false }))
  else (g, c)
structure Rises (c:Col) (g k:Hp):Prop where
 le:∀u,atK g c u<=atK k c u
 out:∀u,atK g c u=0->atK k c u=0
theorem Rises.refl (c:Col) (g:Hp):Rises c g g:=⟨fun _=>Int.le_refl _,fun _ h=>h⟩
theorem Rises.trans {c:Col} {g k m:Hp} (h:Rises c g k) (h' : Rises c k m):Rises c g m:=⟨fun u=>Int.le_trans (h.le u) (h'.le u),fun u e=>h'.out u (h.out u e)⟩
theorem zg6 (g:Hp) (c:Col) (a:Int):Rises c g (zH g c a):=by
 constructor
 ·intro u
  rw[zbL]
  by_cases e:u=a/\atK g c a=1
  ·rw[if_pos e,e.1,e.2];decide
  ·rw[if_neg e];exact Int.le_refl _
 ·intro u h0
  rw[zbL,if_neg]
  ·exact h0
  ·rintro⟨e,h⟩
   subst e
   omega
theorem zko (g:Hp) (c:Col) (a:Int):Rises c g (zak g c a):=by
 constructor
 ·intro u
  rw[zfH]
  by_cases e:u=a/\atK g c a=2
  ·rw[if_pos e,e.1,e.2];decide
  ·rw[if_neg e];exact Int.le_refl _
 ·intro u h0
  rw[zfH,if_neg]
  ·exact h0
  ·rintro⟨e,h⟩
   subst e
   omega
inductive TStep (g:Hp) (c:Col):Hp->Col->Prop
 |idle (h:¬(zx g []=true/\c.phase=5)):TStep g c g c
 |lost (hm:zx g []=true) (hp:c.phase=5) (ha:c.at_≠0) (h:c.field_<0\/zaT g c c.at_<=c.field_):TStep g c g {c with at_:=0,field_:=0}
 |last (hm:zx g []=true) (hp:c.phase=5) (ha:c.at_≠0) (h0:0<=c.field_) (h:c.field_+1=zaT g c c.at_) (v:Int) (hv:v=wordOf g (c.at_+1+c.field_)) :
   TStep g c (zak (zH g c v) c c.at_) {zG g c v with at_:=0,field_:=0}
 |more (hm:zx g []=true) (hp:c.phase=5) (ha:c.at_≠0) (h0:0<=c.field_) (h:c.field_+1<zaT g c c.at_) (v:Int) (hv:v=wordOf g (c.at_+1+c.field_)) :
   TStep g c (zH g c v) {zG g c v with field_:=c.field_+1}
 |pop (hm:zx g []=true) (hp:c.phase=5) (ha:c.at_=0) (r:List Int) (x:Int) (hw:c.work=r++[x]):TStep g c g {c with at_:=x,field_:=0,work:=r}
 |pass (hm:zx g []=true) (hp:c.phase=5) (ha:c.at_=0) (hw:c.work=[]) (hs:c.seek≠0) (hg:zaT g c (zM g.pages c.seek)=0):TStep g c g {c with seek:=zM g.pages c.seek}
 |find (hm:zx g []=true) (hp:c.phase=5) (ha:c.at_=0) (hw:c.work=[]) (hs:c.seek≠0) (hg:zaT g c (zM g.pages c.seek)≠0):TStep g c g {c with seek:=zM g.pages c.seek,at_:=zM g.pages c.seek,field_:=0}
 |again (hm:zx g []=true) (hp:c.phase=5) (ha:c.at_=0) (hw:c.work=[]) (hs:c.seek=0) (ho:c.over=true):TStep g c g {c with over:=false,seek:=1}
 |fin (hm:zx g []=true) (hp:c.phase=5) (ha:c.at_=0) (hw:c.work=[]) (hs:c.seek=0) (ho:c.over=false):TStep g c g {c with phase:=6,at_:=0,field_:=0,seek:=0,card:=0,met:=false}
theorem zvg {l:List Int} (h:0<l.length):l=l.take (l.length-1)++[at0 l (l.length-1)]:=by
 have h1:l.length-1<l.length:=by omega
 have:=zfi h1
 rw[show l.length-1+1=l.length by omega,List.take_length]at this
 exact this
theorem ztj (g:Hp) (c:Col):TStep g c (zfa g c).1 (zfa g c).2:=by
 unfold zfa
 by_cases hm:zx g []=true/\c.phase=5
 ·rw[if_pos hm]
  by_cases ha:c.at_≠0
  ·rw[if_pos ha]
   unfold zle
   by_cases hf:c.field_<0\/zaT g c c.at_<=c.field_
   ·rw[if_pos hf]
    exact .lost hm.1 hm.2 ha hf
   ·rw[if_neg hf]
    by_cases hl:c.field_+1=zaT g c c.at_
    ·rw[if_pos hl]
     exact .last hm.1 hm.2 ha (by omega) hl _ rfl
    ·rw[if_neg hl]
     exact .more hm.1 hm.2 ha (by omega) (by omega) _ rfl
  ·rw[if_neg ha]
   have ha:c.at_=0:=by simpa using ha
   by_cases hw:0<c.work.length
   ·rw[if_pos hw]
    exact .pop hm.1 hm.2 ha _ _ (zvg hw)
   ·rw[if_neg hw]
    have hw:c.work=[]:=List.eq_nil_of_length_eq_zero (by omega)
    by_cases hs:c.seek≠0
    ·rw[if_pos hs]
     by_cases hg:zaT g c (zM g.pages c.seek)=0
     ·rw[if_pos hg]
      exact .pass hm.1 hm.2 ha hw hs hg
     ·rw[if_neg hg]
      exact .find hm.1 hm.2 ha hw hs hg
    ·rw[if_neg hs]
     have hs:c.seek=0:=by simpa using hs
     by_cases ho:c.over=true
     ·rw[if_pos ho]
      exact .again hm.1 hm.2 ha hw hs ho
     ·rw[if_neg ho]
      exact .fin hm.1 hm.2 ha hw hs (by simpa using ho)
 ·rw[if_neg hm]
  exact .idle hm
theorem TStep.marks {g k:Hp} {c d:Col} (h:TStep g c k d):Marks g k:=by
 cases h
 case last v hv=>exact(zbX g c v).trans (zkW _ c c.at_)
 case more v hv=>exact zbX g c v
 all_goals exact .refl g
theorem TStep.rises {g k:Hp} {c d:Col} (h:TStep g c k d):Rises c g k:=by
 cases h
 case last v hv=>exact(zg6 g c v).trans (zko _ c c.at_)
 case more v hv=>exact zg6 g c v
 all_goals exact .refl c g
theorem TStep.col {g k:Hp} {c d:Col} (h:TStep g c k d):d.epoch=c.epoch/\d.major=c.major/\(d.phase=c.phase\/c.phase=5/\d.phase=6):=by
 cases h
 case last v hv=>exact⟨(zY g c v).epoch,(zY g c v).major,.inl (zY g c v).phase⟩
 case more v hv=>exact⟨(zY g c v).epoch,(zY g c v).major,.inl (zY g c v).phase⟩
 case fin=>exact⟨rfl,rfl,.inr ⟨by assumption,rfl⟩⟩
 all_goals exact⟨rfl,rfl,.inl rfl⟩
theorem TStep.at {g k:Hp} {c d:Col} (h:TStep g c k d) (m:Hp) (u:Int):atK m d u=atK m c u:=zoH h.col.1 h.col.2.1 m u
theorem zoT (g:Hp) (c:Col) (v:Int) (h:c.work.length<=100):(zG g c v).work.length<=100:=by
 by_cases e:atK g c v=1
 ·rw[zil e]
  split
  ·show(c.work++[v]).length<=_
   rw[List.length_append,List.length_singleton]
   omega
  ·exact h
 ·rw[zkj e];exact h
theorem zfG {g:Hp} {c:Col} {u:Int} (h:atK g c u=2):headE g u=0/\u∈cellStarts g.pages/\16<=u:=by
 have h0:headE g u=0:=zeB (c:=c) (by omega)
 obtain⟨_,hr,_⟩:=zU h0
 exact⟨h0,zw.2 hr,(zaL (h:=g) hr).1⟩
theorem zcC {g:Hp} {c:Col} {a:Int}:zaT g c a≠0↔atK g c a=2:=by
 unfold zaT
 constructor
 ·intro h
  by_cases e:atK g c a=2
  ·exact e
  ·rw[if_neg e]at h;exact absurd rfl h
 ·intro h
  rw[if_pos h]
  have:=(zaj (zfG h).1).2.1
  omega
def zpi (l:List Page) (a s:Int):Bool:=decide (s<=a/\a<s+ze l s)
theorem zvE {l:List Page} (hmp:zar l=true) {a:Int} (h1:16<=a) (h2:a<16*((l.length:Int)+1)):((cellStarts l).filter (zpi l a)).length<=1:=by
 have ht:=zzb l 0 0 (by unfold zar at hmp;rw[Bool.and_eq_true]at hmp;exact hmp.1) (Int.le_refl _) (fun p hp=>by
  obtain⟨i,hi,e⟩:=List.mem_iff_getElem.1 hp
  have:=(zab hmp).1 i hi
  rw[List.getD_eq_getElem?_getD,List.getElem?_eq_getElem hi]at this
  rw[←e];exact this) a (by omega) (by omega)
 have e0:cellsAll l=zbs 0 l:=by
  unfold cellsAll
  rw[if_pos hmp,zdz l _ 0 rfl]
  rfl
 have e1:cnt (cellsAll l) a=((cellStarts l).filter (zpi l a)).length:=by
  unfold cnt cellStarts
  rw[List.filter_map,List.length_map]
  congr 1
  refine List.filter_congr fun x hx=>?_
  show zeA a x=zpi l a x.1
  unfold zeA zpi
  rw[zbA hx]
 rw[←e1,e0]
 omega
theorem zyV {l:List Int} (hn:l.Nodup) {x y:Int} (hx:x∈l) (hy:y∈l) (hne:x≠y):2<=l.length:=by
 cases l with
 |nil=>cases hx
 |cons a r=>
  cases r with
  |nil=>
   rw[List.mem_singleton]at hx hy
   exact absurd (hx.trans hy.symm) hne
  |cons b s=>simp
theorem ztG:∀(l:List Page) (r:Int),pgo r l=true->(∀p∈l,zbv p)->r<=(l.length:Int)
 |[],r,h,_=>by
  unfold pgo at h
  have:=of_decide_eq_true h
  simp
  omega
 |p::l,r,h,hp=>by
  unfold pgo at h
  have hl:((p::l).length:Int)=(l.length:Int)+1:=by simp
  by_cases h3:p.kind=3
  ·rw[decide_eq_true h3]at h
   simp only[cond_true,Bool.and_eq_true]at h
   have:=ztG l (r-1) h.2 fun q hq=>hp q (List.mem_cons_of_mem _ hq)
   omega
  ·rw[decide_eq_false h3]at h
   simp only[cond_false,Bool.and_eq_true,Bool.not_eq_true',decide_eq_false_iff_not]at h
   omega
theorem ztx:∀(l:List Page) (r:Int) (i:Nat),pgo r l=true->(∀p∈l,zbv p)->i<l.length->(l.getD i default).kind=2->(i:Int)+(l.getD i default).arg<=(l.length:Int)
 |[],r,i,_,_,hi,_=>by simp at hi
 |p::l,r,i,h,hp,hi,hk=>by
  unfold pgo at h
  have hl:((p::l).length:Int)=(l.length:Int)+1:=by simp
  have hp' : ∀q∈l,zbv q:=fun q hq=>hp q (List.mem_cons_of_mem _ hq)
  have rec_:∀r',pgo r' l=true->∀j,i=j+1->(i:Int)+((p::l).getD i default).arg<=((p::l).length:Int):=by
   intro r' h' j hj
   subst hj
   have:=ztx l r' j h' hp' (by simpa using hi) hk
   have e:((p::l).getD (j+1) default)=l.getD j default:=rfl
   rw[e]
   omega
  by_cases h3:p.kind=3
  ·rw[decide_eq_true h3]at h
   simp only[cond_true,Bool.and_eq_true]at h
   cases i with
   |zero=>exfalso;have hk:p.kind=2:=hk;omega
   |succ j=>exact rec_ _ h.2 j rfl
  ·rw[decide_eq_false h3]at h
   simp only[cond_false,Bool.and_eq_true]at h
   cases i with
   |zero=>
    have hk:p.kind=2:=hk
    have h2:=h.2
    rw[if_pos hk]at h2
    have:=ztG l _ h2 hp'
    show((0:Nat):Int)+p.arg<=_
    omega
   |succ j=>exact rec_ _ h.2 j rfl
theorem zp7 {l:List Page} (hmp:zar l=true):∀p∈l,zbv p:=by
 intro p hp
 obtain⟨i,hi,e⟩:=List.mem_iff_getElem.1 hp
 have:=(zab hmp).1 i hi
 rw[List.getD_eq_getElem?_getD,List.getElem?_eq_getElem hi]at this
 rw[←e];exact this
theorem zqW {l:List Page} {a:Int} (h:ze l a≠0):a+ze l a<=16*((l.length:Int)+1):=by
 obtain⟨hmp,i,hi⟩:=zap (zz h)
 have hlt:=hi.lt
 have hk:=hi.kind
 simp only at hk
 rcases hk with⟨_,_,_,k4,_⟩|⟨k1,k2,k3,k4,k5⟩
 ·omega
 ·have:=ztx l 0 i (by unfold zar at hmp;rw[Bool.and_eq_true]at hmp;exact hmp.1) (zp7 hmp) hlt k1
  omega
theorem zyQ {l:List Page} {u a:Int} (hr:ze l u≠0) (h1:u<a) (h2:a<u+ze l u):ze l a=0:=by
 by_cases h:ze l a=0
 ·exact h
 ·exfalso
  obtain⟨hmp,i,hi⟩:=zap (zz hr)
  have hlo:=hi.lo
  simp only at hlo
  have hend:=zqW hr
  have hone:=zvE hmp (a:=a) (by omega) (by omega)
  have hpos:=zcn l a
  have hn:((cellStarts l).filter (zpi l a)).Nodup:=((zdv l).imp (fun h=>by omega):(cellStarts l).Nodup).sublist List.filter_sublist
  have:=zyV hn (x:=u) (y:=a) (List.mem_filter.2 ⟨zw.2 hr,decide_eq_true ⟨by omega,h2⟩⟩) (List.mem_filter.2 ⟨zw.2 h,decide_eq_true ⟨by omega,by omega⟩⟩) (by omega)
  omega
theorem zfo {g:Hp} {u f:Int} (h0:headE g u=0) (h1:1<=f) (h2:f<=(headH g u).n):adr g (u+f)/\u+f ∉ zu g:=by
 obtain⟨_,hn1,hn2,had⟩:=zaj h0
 obtain⟨_,hr,_⟩:=zU h0
 have he:=zqW hr
 have had1:=had.1
 refine⟨⟨by omega,by omega⟩,fun hin=>?_⟩
 have:=(zU (zaa.1 hin)).2.1
 exact this (zyQ hr (by omega) (by omega))
theorem ziX {g:Hp} {u f:Int} (h0:headE g u=0) (h1:1<=f) (h2:f<=(headH g u).n):wordOf g (u+f)=zf g (u+f):=by
 have had:=(zfo h0 h1 h2).1
 obtain⟨hw,_,hs,_⟩:=zl (zA (zU h0).1)
 unfold wordOf
 have ha1:=had.1;have ha2:=had.2
 rw[if_pos ⟨hw,by omega,by omega⟩]
theorem Marks.field {g k:Hp} (h:Marks g k) {u f:Int} (h0:Abs.headE g u=0) (h1:1<=f) (h2:f<=(headH g u).n):zf k (u+f)=zf g (u+f):=by
 obtain⟨had,hnot⟩:=zfo h0 h1 h2
 have ha1:=had.1
 unfold zf at0
 by_cases e:k.w.getD (u+f-16).toNat 0=g.w.getD (u+f-16).toNat 0
 ·exact e
 ·exfalso
  have:=h.word _ e
  rw[show 16+((u+f-16).toNat:Int)=u+f by omega]at this
  exact hnot this
def zxW (P:Int->Prop) (g:Hp) (c:Col):Prop:=∀u,P u->atK g c u=3->∀f:Int,1<=f->f<=(headH g u).n->atK g c (zf g (u+f))≠1
structure TAt (g:Hp) (c:Col):Prop where
 f0:c.at_≠0->0<=c.field_
 fn:atK g c c.at_=2->c.at_≠0->c.field_<(headH g c.at_).n
 led:atK g c c.at_=2->c.at_≠0->∀f:Int,1<=f->f<=c.field_->atK g c (zf g (c.at_+f))≠1
structure TA (g:Hp) (c:Col):Prop where
 f0:c.at_≠0->0<=c.field_
 fn:atK g c c.at_=2->c.at_≠0->c.field_<(headH g c.at_).n
theorem zd2 {g:Hp} {c:Col} (h:c.at_=0):TA g c:=⟨fun k=>absurd h k,fun _ k=>absurd h k⟩
theorem Rises.nonwhite {c:Col} {g k:Hp} (h:Rises c g k) {u:Int} (hu:atK g c u≠1):atK k c u≠1:=by
 intro e
 have h1:=h.le u
 have h2:=(zs3 g c u).1
 have h3:atK g c u=0:=by omega
 have:=h.out u h3
 omega
theorem ziI {g k:Hp} (h:Marks g k) (u:Int):(headH k u).n=(headH g u).n:=(h.head u).2.2.1
theorem zlE {g k:Hp} {c:Col} (hM:Marks g k) (hR:Rises c g k) {u:Int} (h0:headE g u=0) {m:Int} (hm:m<=(headH g u).n) (h:∀f:Int,1<=f->f<=m->atK g c (zf g (u+f))≠1) :
  ∀f:Int,1<=f->f<=m->atK k c (zf k (u+f))≠1:=by
 intro f h1 h2
 rw[hM.field h0 h1 (by omega)]
 exact hR.nonwhite (h f h1 h2)
theorem TStep.led {P:Int->Prop} {g k:Hp} {c d:Col} (h:TStep g c k d) (hl:zxW P g c) (ht:TAt g c):zxW P k d/\TAt k d:=by
 have hM:=h.marks
 have hR:=h.rises
 have hat:=h.at
 have hn:=ziI hM
 have hblack:∀u,P u->atK g c u=3->∀f:Int,1<=f->f<=(headH k u).n->atK k c (zf k (u+f))≠1:=fun u hP hu f h1 h2=>by
  rw[hn]at h2
  have h0:headE g u=0:=zeB (c:=c) (by omega)
  exact zlE hM hR h0 (Int.le_refl _) (hl u hP hu) f h1 h2
 have same:k=g->d.at_=c.at_->d.field_=c.field_->zxW P k d/\TAt k d:=by
  intro e1 e2 e3
  subst e1
  refine⟨fun u hP hu=>?_,⟨by rw[e2,e3];exact ht.f0,by rw[hat,e2,e3];exact ht.fn,?_⟩⟩
  ·rw[hat]at hu
   intro f h1 h2
   rw[hat]
   exact hl u hP hu f h1 h2
  ·rw[hat,e2,e3]
   intro h1 h2 f h3 h4
   rw[hat]
   exact ht.led h1 h2 f h3 h4
 have fresh:k=g->d.at_=0\/d.field_=0->zxW P k d/\TAt k d:=by
  intro e1 e2
  subst e1
  refine⟨fun u hP hu f h1 h2=>?_,⟨fun h=>?_,fun h1 h2=>?_,fun h1 h2 f h3 h4=>?_⟩⟩
  ·rw[hat]at hu ⊢
   exact hl u hP hu f h1 h2
  ·rcases e2 with e2|e2
   ·exact absurd e2 h
   ·omega
  ·rcases e2 with e2|e2
   ·exact absurd e2 h2
   ·rw[hat]at h1
    have:=(zaj (zfG h1).1).2.1
    omega
  ·rcases e2 with e2|e2
   ·exact absurd e2 h2
   ·omega
 cases h
 case idle h=>exact same rfl rfl rfl
 case lost hm hp ha h=>exact fresh rfl (.inl rfl)
 case pop r x hw=>exact fresh rfl (.inr rfl)
 case pass=>exact same rfl rfl rfl
 case find=>exact fresh rfl (.inr rfl)
 case again=>exact same rfl rfl rfl
 case fin=>exact fresh rfl (.inl rfl)
 case last hm hp ha h0 h v hv=>
  have hg:atK g c c.at_=2:=zcC.1 (by omega)
  have hh:=(zfG hg).1
  have hN:zaT g c c.at_=(headH g c.at_).n:=if_pos hg
  refine⟨fun u hP hu f h1 h2=>?_,⟨fun h=>absurd rfl h,fun _ h=>absurd rfl h,fun _ h=>absurd rfl h⟩⟩
  rw[hat]at hu ⊢
  by_cases hu3:atK g c u=3
  ·exact hblack u hP hu3 f h1 h2
  ·
   have hua:u=c.at_:=by
    rw[zfH]at hu
    by_cases e:u=c.at_/\atK (zH g c v) c c.at_=2
    ·exact e.1
    ·rw[if_neg e,zbL]at hu
     by_cases e' : u=v/\atK g c v=1
     ·rw[if_pos e']at hu;exact absurd hu (by decide)
     ·rw[if_neg e']at hu;exact absurd hu hu3
   subst hua
   rw[hn]at h2
   by_cases hf:f=c.field_+1
   ·rw[hM.field hh h1 h2]
    subst hf
    have hvw:v=zf g (c.at_+(c.field_+1)):=by
     rw[hv,show c.at_+1+c.field_=c.at_+(c.field_+1) by omega]
     exact ziX hh h1 h2
    rw[←hvw]
    exact(zko (zH g c v) c c.at_).nonwhite (by
     rw[zbL]
     by_cases e:atK g c v=1
     ·rw[if_pos ⟨rfl,e⟩];decide
     ·rw[if_neg (fun k=>e k.2)];exact e)
   ·exact zlE hM hR hh (m:=c.field_) (by omega) (ht.led hg ha) f h1 (by omega)
 case more hm hp ha h0 h v hv=>
  have hg:atK g c c.at_=2:=zcC.1 (by omega)
  have hh:=(zfG hg).1
  have hN:zaT g c c.at_=(headH g c.at_).n:=if_pos hg
  have ea:({zG g c v with field_:=c.field_+1}:Col).at_=c.at_:=(zY g c v).at_
  refine⟨fun u hP hu f h1 h2=>?_,⟨fun _=>?_,fun _ _=>?_,fun _ _ f h1 h2=>?_⟩⟩
  ·rw[hat]at hu ⊢
   have hu3:atK g c u=3:=by
    rw[zbL]at hu
    by_cases e' : u=v/\atK g c v=1
    ·rw[if_pos e']at hu;exact absurd hu (by decide)
    ·rw[if_neg e']at hu;exact hu
   exact hblack u hP hu3 f h1 h2
  ·show 0<=c.field_+1
   omega
  ·rw[ea,hn]
   show c.field_+1<_
   omega
  ·rw[hat,ea]
   have h2:f<=c.field_+1:=h2
   by_cases hf:f=c.field_+1
   ·rw[hM.field hh h1 (by omega)]
    subst hf
    have hvw:v=zf g (c.at_+(c.field_+1)):=by
     rw[hv,show c.at_+1+c.field_=c.at_+(c.field_+1) by omega]
     exact ziX hh h1 (by omega)
    rw[←hvw,zbL]
    by_cases e:atK g c v=1
    ·rw[if_pos ⟨rfl,e⟩];decide
    ·rw[if_neg (fun k=>e k.2)];exact e
   ·exact zlE hM hR hh (m:=c.field_) (by omega) (ht.led hg ha) f h1 (by omega)
theorem TStep.ta {g k:Hp} {c d:Col} (h:TStep g c k d) (ht:TA g c):TA k d:=by
 have hat:=h.at
 cases h
 case idle=>exact ht
 case lost=>exact zd2 rfl
 case last=>exact zd2 rfl
 case more _ _ ha h0 h v hv=>
  have ea:({zG g c v with field_:=c.field_+1}:Col).at_=c.at_:=(zY g c v).at_
  refine⟨fun _=>by show 0<=c.field_+1;omega,fun _ _=>?_⟩
  show c.field_+1<(headH (zH g c v) ({zG g c v with field_:=c.field_+1}:Col).at_).n
  rw[ea,ziI (zbX g c v)]
  have hg:atK g c c.at_=2:=zcC.1 (by omega)
  have e:zaT g c c.at_=(headH g c.at_).n:=if_pos hg
  omega
 case pop r x hw=>
  refine⟨fun _=>Int.le_refl _,fun h2 _=>?_⟩
  have h2:atK g {c with at_:=x,field_:=0,work:=r} x=2:=h2
  have:=(zaj (zeB (c:={c with at_:=x,field_:=0,work:=r}) (g:=g) (a:=x) (by omega))).2.1
  show(0:Int)<(headH g x).n
  omega
 case pass _ _ ha _ _ _=>exact zd2 ha
 case find hs hg=>
  refine⟨fun _=>Int.le_refl _,fun _ _=>?_⟩
  have:=(zaj (zeB (c:=c) (g:=g) (a:=zM g.pages c.seek) (by have:=zcC.1 hg;omega))).2.1
  show(0:Int)<(headH g (zM g.pages c.seek)).n
  omega
 case again _ _ ha _ _ _=>exact zd2 ha
 case fin=>exact zd2 rfl
abbrev Thread.mayT (t:Thread):Prop:=0<=t.stage/\t.stage<=3/\0<=t.root/\t.root<=3/\0<=t.pc/\t.pc<=4/\(t.ops.length:Int)<=200/\(t.pc=0\/0<(t.ops.length:Int))
def zeo (p:Int):Int:=if p=0 then 0 else if p=1 then 1 else if p=2 then 2 else 3
def zaz (c:Col) (t:Thread):Bool:=
 if c.phase=0 then true else if c.phase=1 then decide (t.epoch=c.epoch) else if c.phase=2 then decide (t.epoch=c.epoch/\2<=t.stage) else decide (t.epoch=c.epoch/\t.stage=3)
def zaS (c:Col) (t:Thread):Bool:=t.live&&(decide t.mayT&&(decide (t.pc=0)&&!zaz c t))
def zbD (c:Col) (t:Thread):Nat:=if zaS c t=true then (if t.epoch≠c.epoch then 1 else if c.phase=2 then 2 else 3) else 0
def ansT (c:Col) (t:Thread):Thread:=match zbD c t with
 |0=>t
 |1=>{t with epoch:=c.epoch,stage:=1,root:=0}
 |2=>{t with stage:=2}
 |_=>if t.root=3 then {t with root:=0,stage:=3} else {t with root:=t.root+1}
def ansG (g:Hp) (c:Col) (t:Thread):Hp:=if zbD c t=3 then zH g c (t.reg t.root) else g
def ansC (g:Hp) (c:Col) (t:Thread):Col:=if zbD c t=3 then zG g c (t.reg t.root) else c
theorem zmQ {c:Col} {t:Thread} (h:zaS c t=true):t.live=true/\t.mayT/\t.pc=0/\zaz c t=false:=by
 unfold zaS at h
 rw[Bool.and_eq_true,Bool.and_eq_true,Bool.and_eq_true,decide_eq_true_eq,decide_eq_true_eq,Bool.not_eq_true']at h
 exact h
theorem zrQ {c:Col} {t:Thread} (h:zaS c t=false):zbD c t=0:=by unfold zbD;rw[if_neg (by rw[h];decide)]
theorem zoS {c:Col} {t:Thread} (h:zaS c t=false):ansT c t=t:=by unfold ansT;rw[zrQ h];rfl
theorem zx7 {g:Hp} {c:Col} {t:Thread} (h:zaS c t=false):ansG g c t=g:=by unfold ansG;rw[zrQ h];rfl
theorem zxL {g:Hp} {c:Col} {t:Thread} (h:zaS c t=false):ansC g c t=c:=by unfold ansC;rw[zrQ h];rfl
theorem zfj {c:Col} {t:Thread} (h:zaS c t=true) :
  (t.epoch≠c.epoch/\zbD c t=1/\ansT c t={t with epoch:=c.epoch,stage:=1,root:=0}) \/
  (t.epoch=c.epoch/\c.phase=2/\t.stage<2/\zbD c t=2/\ansT c t={t with stage:=2}) \/
  (t.epoch=c.epoch/\c.phase≠0/\c.phase≠1/\c.phase≠2/\t.stage≠3/\zbD c t=3/\ansT c t=if t.root=3 then {t with root:=0,stage:=3} else {t with root:=t.root+1}):=by
 have ha:=(zmQ h).2.2.2
 by_cases h1:t.epoch=c.epoch
 ·by_cases h2:c.phase=2
  ·have hk:zbD c t=2:=by unfold zbD;rw[if_pos h,if_neg (fun k=>k h1),if_pos h2]
   refine .inr (.inl ⟨h1,h2,?_,hk,by unfold ansT;rw[hk];rfl⟩)
   unfold zaz at ha
   rw[if_neg (by omega),if_neg (by omega),if_pos h2]at ha
   have:=of_decide_eq_false ha
   omega
  ·have hk:zbD c t=3:=by unfold zbD;rw[if_pos h,if_neg (fun k=>k h1),if_neg h2]
   have h0:c.phase≠0:=by
    intro e
    unfold zaz at ha
    rw[if_pos e]at ha
    cases ha
   have h0' : c.phase≠1:=by
    intro e
    unfold zaz at ha
    rw[if_neg h0,if_pos e]at ha
    exact of_decide_eq_false ha h1
   refine .inr (.inr ⟨h1,h0,h0',h2,?_,hk,by unfold ansT;rw[hk];rfl⟩)
   intro e
   unfold zaz at ha
   rw[if_neg h0,if_neg h0',if_neg h2]at ha
   exact of_decide_eq_false ha ⟨h1,e⟩
 ·have hk:zbD c t=1:=by unfold zbD;rw[if_pos h,if_pos h1]
  exact .inl ⟨h1,hk,by unfold ansT;rw[hk];rfl⟩
structure SameT (t u:Thread):Prop where
 live:u.live=t.live
 r0:u.r0=t.r0
 r1:u.r1=t.r1
 r2:u.r2=t.r2
 r3:u.r3=t.r3
 cache:u.cache=t.cache
 ops:u.ops=t.ops
 pc:u.pc=t.pc
 x:u.x=t.x
 y:u.y=t.y
theorem SameT.refl (t:Thread):SameT t t:=⟨rfl,rfl,rfl,rfl,rfl,rfl,rfl,rfl,rfl,rfl⟩
theorem zu9 (c:Col) (t:Thread):SameT t (ansT c t):=by
 by_cases h:zaS c t=true
 ·rcases zfj h with⟨_,_,e⟩|⟨_,_,_,_,e⟩|⟨_,_,_,_,_,_,e⟩
  ·rw[e];exact⟨rfl,rfl,rfl,rfl,rfl,rfl,rfl,rfl,rfl,rfl⟩
  ·rw[e];exact⟨rfl,rfl,rfl,rfl,rfl,rfl,rfl,rfl,rfl,rfl⟩
  ·rw[e]
   by_cases h3:t.root=3
   ·rw[if_pos h3];exact⟨rfl,rfl,rfl,rfl,rfl,rfl,rfl,rfl,rfl,rfl⟩
   ·rw[if_neg h3];exact⟨rfl,rfl,rfl,rfl,rfl,rfl,rfl,rfl,rfl,rfl⟩
 ·rw[zoS (by simpa using h)]
  exact .refl t
theorem zvz {c:Col} {t:Thread} (hm:t.mayT):(ansT c t).mayT:=by
 by_cases h:zaS c t=true
 ·obtain⟨m1,m2,m3,m4,m5,m6,m7,m8⟩:=hm
  rcases zfj h with⟨_,_,e⟩|⟨_,_,_,_,e⟩|⟨_,_,_,_,_,_,e⟩
  ·rw[e];exact⟨by show(0:Int)<=1;omega,by show(1:Int)<=3;omega,by show(0:Int)<=0;omega,by show(0:Int)<=3;omega,m5,m6,m7,m8⟩
  ·rw[e];exact⟨by show(0:Int)<=2;omega,by show(2:Int)<=3;omega,m3,m4,m5,m6,m7,m8⟩
  ·rw[e]
   by_cases h3:t.root=3
   ·rw[if_pos h3];exact⟨by show(0:Int)<=3;omega,by show(3:Int)<=3;omega,by show(0:Int)<=0;omega,by show(0:Int)<=3;omega,m5,m6,m7,m8⟩
   ·rw[if_neg h3];exact⟨m1,m2,by show 0<=t.root+1;omega,by show t.root+1<=3;omega,m5,m6,m7,m8⟩
 ·rw[zoS (by simpa using h)]
  exact hm
def rem (c:Col) (t:Thread):Nat:=if zaS c t=true then (if t.epoch≠c.epoch then (if c.phase=1 then 1 else if c.phase=2 then 2 else 5) else if c.phase=2 then 1 else (4-t.root).toNat) else 0
inductive Roots (c:Col) (n:Nat) (k:Hp) (u:Thread):Prop
 |new (h:n=0) (he:u.epoch≠c.epoch) (ha:zaS c u=true)
 |at_ (he:u.epoch=c.epoch) (ha:zaS c u=true) (hn:(n:Int)<=u.root+1) (hw:∀r,0<=r->r<u.root->atK k c (u.reg r)≠1)
 |done (ha:zaS c u=false) (hs:u.stage=3) (hr:u.root=0) (hw:∀r,0<=r->r<=3->atK k c (u.reg r)≠1)
def beginT (c:Col) (t:Thread) (l:List Thread):Thread:=match l.find? (·.live) with
 |some x=>{t with live:=true,r0:=x.r0,r1:=0,r2:=0,r3:=0,epoch:=x.epoch,stage:=x.stage,root:=0,pc:=0,x:=0,y:=0}
 |none=>{t with live:=true,r0:=0,r1:=0,r2:=0,r3:=0,epoch:=if c.phase=0 then 0 else c.epoch,stage:=zeo c.phase,root:=0,pc:=0,x:=0,y:=0}
def zir (c:Col) (l:List Thread):Bool:=l.all fun t=>!t.live || zaz c t
set_option maxRecDepth 8000
structure Mu where
 h:Hp
 c:Col
 t:Thread
 r:Res
 told:Bool
def Mu.cells (m:Mu):List DV:=m.h.enc++(m.c.enc++(EK.enc .thread m.t++(EK.enc .res m.r++[DV.bo m.told])))
abbrev muV (m:Mu):List CV:=m.cells.map .d
def Mu.op (m:Mu):Op:=m.t.ops.getD 0 default
def zzn (t:Thread):Thread:={t with ops:=t.ops.drop 1,pc:=0,x:=0,y:=0}
def zmx (m:Mu):Mu:={m with t:=zzn m.t}
def zjb (m:Mu) (e v:Int):Mu:={m with r:=⟨0,m.op,e,v⟩,told:=true}
def endM (m:Mu) (e v:Int):Mu:=zmx (zjb m e v)
def za8 (a b:Int):Int:=if a≠0 then a else b
def zcw (m:Mu) (r a:Int):Mu:=if zbd r=0 then {m with t:=m.t.setReg r a} else m
def zga (c:Col) (t:Thread):Bool:=decide (t.epoch=c.epoch/\1<=c.phase/\c.phase<=5)
def zwH (c:Col) (t:Thread):Bool:=decide (t.epoch=c.epoch/\t.stage=3/\c.phase≠0)
def zbV (m:Mu) (n:Int):Hd:=if zwH m.c m.t=true then ⟨true,false,true,n,m.c.epoch,m.c.epoch⟩ else ⟨true,false,false,n,0,0⟩
def zbj (m:Mu) (r f:Int):Int:=if zd0 m.h m.t r≠0 then zd0 m.h m.t r else if f<0\/zfy m.h m.t r<=f then 3 else 0
def zdO (m:Mu) (r f:Int):Int:=if zbj m r f=0 then zfh m.h m.t r else 0
def zdG (m:Mu) (r f:Int):Int:=if zbj m r f=0 then zfh m.h m.t r+1+f else 0
theorem ztz {m:Mu} {r:Int} (h:zd0 m.h m.t r≠0) (f:Int):zbj m r f=zd0 m.h m.t r/\zdO m r f=0/\zdG m r f=0:=by
 have e:zbj m r f=zd0 m.h m.t r:=by unfold zbj;rw[if_pos h]
 unfold zdO zdG
 rw[e,if_neg h,if_neg h]
 exact⟨rfl,rfl,rfl⟩
theorem zlX {m:Mu} {r f:Int} (h:zd0 m.h m.t r=0) (h2:f<0\/zfy m.h m.t r<=f):zbj m r f=3/\zdO m r f=0/\zdG m r f=0:=by
 have e:zbj m r f=3:=by unfold zbj;rw[if_neg (fun k=>k h),if_pos h2]
 unfold zdO zdG
 rw[e]
 exact⟨rfl,rfl,rfl⟩
theorem ztK {m:Mu} {r f:Int} (h:zd0 m.h m.t r=0) (h2:¬(f<0\/zfy m.h m.t r<=f)):zbj m r f=0/\zdO m r f=zfh m.h m.t r/\zdG m r f=zfh m.h m.t r+1+f:=by
 have e:zbj m r f=0:=by unfold zbj;rw[if_neg (fun k=>k h),if_neg h2]
 unfold zdO zdG
 rw[e]
 exact⟨rfl,rfl,rfl⟩
theorem zv7 {m:Mu} {r f:Int} (h:zbj m r f=0):zd0 m.h m.t r=0/\0<=f/\f<zfy m.h m.t r/\zdO m r f=zfh m.h m.t r/\zdG m r f=zfh m.h m.t r+1+f:=by
 by_cases h1:zd0 m.h m.t r=0
 ·by_cases h2:f<0\/zfy m.h m.t r<=f
  ·rw[(zlX h1 h2).1]at h;cases h
  ·obtain⟨_,e1,e2⟩:=ztK h1 h2
   exact⟨h1,by omega,by omega,e1,e2⟩
 ·rw[(ztz h1 f).1]at h;exact absurd h h1
def createM (m:Mu):Mu:=
 if 0<m.t.pc then endM (zcw m m.op.a m.t.x) 0 0
 else if za8 (zbd m.op.a) (zaM m.op.b)≠0 then endM m (za8 (zbd m.op.a) (zaM m.op.b)) 0
 else if zaw m.h m.t.cache (zbV m m.op.b)≠0 then endM m (zaw m.h m.t.cache (zbV m m.op.b)) 0
 else {m with h:=ze5 m.h m.t.cache (zbV m m.op.b),t:={m.t with cache:=zkv m.h m.t.cache (zbV m m.op.b),x:=zfD m.h m.t.cache (zbV m m.op.b),pc:=1}}
def zeY (m:Mu):Int:=zf m.h (zdG m m.op.b m.op.c)
def loadM (m:Mu):Mu:=
 if zbd m.op.a≠0 then endM m (zbd m.op.a) 0
 else if zbj m m.op.b m.op.c≠0 then endM m (zbj m m.op.b m.op.c) 0
 else endM (zcw m m.op.a (zeY m)) 0 (if zeY m≠0 then 1 else 0)
def zg8 (m:Mu):Mu:=
 if za8 (zbj m m.op.a m.op.b) (zbd m.op.c)≠0 then endM m (za8 (zbj m m.op.a m.op.b) (zbd m.op.c)) 0
 else {m with t:={m.t with x:=zf m.h (zdG m m.op.a m.op.b),y:=zxZ m.t m.op.c,pc:=1}}
def shadeM (m:Mu) (a:Int):Mu:={m with h:=if zga m.c m.t=true then zH m.h m.c a else m.h,c:=if zga m.c m.t=true then zG m.h m.c a else m.c,t:={m.t with pc:=m.t.pc+1}}
def zgR (m:Mu):Mu:=
 if zbj m m.op.a m.op.b≠0 then endM m 5 0
 else {zjb m 0 0 with h:={m.h with w:=m.h.w.set (zdG m m.op.a m.op.b-16).toNat m.t.y},t:={m.t with pc:=4}}
def zgV (m:Mu):Mu:=zmx (if zbj m m.op.a m.op.b=0 then {m with h:=zaY m.h (zdO m m.op.a m.op.b)} else m)
def storeM (m:Mu):Mu:=if m.t.pc=0 then zg8 m else if m.t.pc=1 then shadeM m m.t.x else if m.t.pc=2 then shadeM m m.t.y else if m.t.pc=3 then zgR m else zgV m
def dropM (m:Mu):Mu:=endM (zcw m m.op.a 0) (zbd m.op.a) 0
def zgi (m:Mu):Int:=za8 (zbd m.op.a) (zbd m.op.b)
def sameM (m:Mu):Mu:=endM m (zgi m) (if zgi m=0/\m.t.reg m.op.a=m.t.reg m.op.b then 1 else 0)
def sizeM (m:Mu):Mu:=endM m (zd0 m.h m.t m.op.a) (zfy m.h m.t m.op.a)
def exitM (m:Mu):Mu:={zjb m 0 0 with h:=zda m.h m.t.cache,t:=Thread.zero}
def zgE (g:Hp) (t:Thread):Bool:=decide t.mayT&&(t.live&&(decide (0<t.ops.length)&&zx g [t.cache]))
def zdB (m:Mu):Mu:=
 if m.op.kind=0 then createM m else if m.op.kind=1 then loadM m else if m.op.kind=2 then storeM m else if m.op.kind=3 then dropM m
 else if m.op.kind=4 then sameM m else if m.op.kind=5 then sizeM m else if m.op.kind=6 then exitM m else endM m 1 0
def Res.zero:Res:=⟨0,⟨0,0,0,0⟩,0,0⟩
def mutS (g:Hp) (c:Col) (t:Thread):Mu:=if zgE g t=true then zdB ⟨g,c,t,Res.zero,false⟩ else ⟨g,c,t,Res.zero,false⟩
open Go.Proofs Go.Proofs.YtlankjlnnimdoaaGreatDoor
def ziY (g:Hp) (c:Int) (n:Nat):List Int:=((List.range n).map fun i:Nat=>16+c*8+(i:Int)).filter fun a=>(zu g).contains a
def onH (g:Hp) (c:Int):List Int:=bif decide (0<=c/\c<(g.cards.length:Int)) then ziY g c 8 else []
def zgn (g:Hp) (c a:Int):Option Int:=(onH g c).find? fun b=>decide (a<b)&&(headH g b).old
theorem zue (g:Hp) (c:Int) (n:Nat):ziY g c (n+1)=ziY g c n++(bif (zu g).contains (16+c*8+(n:Int)) then [16+c*8+(n:Int)] else []):=by
 unfold ziY
 rw[List.range_succ,List.map_append,List.filter_append]
 have e:([16+c*8+(n:Int)]:List Int).filter (fun a=>(zu g).contains a)=bif (zu g).contains (16+c*8+(n:Int)) then [16+c*8+(n:Int)] else []:=by
  rw[List.filter_cons,List.filter_nil]
  cases (zu g).contains (16+c*8+(n:Int))<;>rfl
 rw[←e]
 rfl
theorem zrD (g:Hp) (c:Int) (n:Nat):(ziY g c n).length<=n:=by
 unfold ziY
 refine Nat.le_trans (List.length_filter_le _ _) ?_
 simp
theorem zxE (g:Hp) (c:Int) (hl:g.light):Spec X 244 [] [g.tv,.int c] (Ret [] (.c (.d (.sl .int (onH g c))))):=by
 refine zGO X_ok Tryz.f244 fun hb hH=>⟨rfl,?_⟩
 have hlc:g.cards.length<=zE:=((hb (g.tv) (by simp)) (.d (.sl .bool g.cards)) (by simp[Hp.enc])).1
 unfold zE at hlc
 have hcond:(bif decide (c<0) then true else decide (c>=(g.cards.length:Int))) = !decide (0<=c/\c<(g.cards.length:Int)):=by
  by_cases h1:c<0
  ·rw[decide_eq_true h1,decide_eq_false (p:=0<=c/\c<(g.cards.length:Int)) (by omega)];rfl
  ·rw[decide_eq_false h1]
   by_cases h2:c>=(g.cards.length:Int)
   ·rw[decide_eq_true h2,decide_eq_false (p:=0<=c/\c<(g.cards.length:Int)) (by omega)];rfl
   ·rw[decide_eq_false h2,decide_eq_true (p:=0<=c/\c<(g.cards.length:Int)) (by omega)];rfl
 unfold onH
 show ABr (bif decide (c<0) then true else decide (c>=(g.cards.length:Int))) _ _
 rw[hcond]
 cases hin:decide (0<=c/\c<(g.cards.length:Int)) with
 |false=>
  refine zYE (by decide) ?_
  show ARet ..
  exact zgL (.nilsl rfl) ⟨rfl,rfl⟩
 |true=>
  have hin:=of_decide_eq_true hin
  refine zNO (by decide) ?_
  show ACall ..
  refine za (zh3 g hl) rfl ?_
  show ∃n,_
  refine⟨0,ALoop.inv (ι:={i:Nat // i<=8}) (fun i=>⟨[(1,.int c),(5,.c (.d (.sl .int (zu g)))),(6,.c (.own 1)),(20,.int i.1)],[(1,.data .int (ziY g c i.1))],64⟩) (fun i=>8-i.1) ⟨0,Nat.zero_le _⟩ ?_ ?_⟩
  ·exact⟨[],.cons _ _ _ .same (.cons _ _ _ .same (.cons _ _ _ (.c _ _ (.nilown 1 .int rfl rfl)) (.cons _ _ _ .same .nil))),.new 1 .int _ rfl .nil,rfl⟩
  ·rintro⟨i,hi⟩
   show ABr (decide ((i:Int)<8)) _ _
   refine⟨fun h=>?_,fun h=>?_⟩
   ·have hlt:i<8:=by have:=of_decide_eq_true h;omega
    have w1:IntKind.i64.wrap (c*8)=c*8:=zB (by omega) (by omega)
    have w2:IntKind.i64.wrap (16+c*8)=16+c*8:=zB (by omega) (by omega)
    have w3:IntKind.i64.wrap (16+c*8+(i:Int))=16+c*8+(i:Int):=zB (by omega) (by omega)
    have wi:IntKind.i64.wrap ((i:Int)+1)=((i+1:Nat):Int):=by rw[zB (by omega) (by omega)];rfl
    have hs:=zue g c i
    have hlen:=zrD g c i
    show ACall _ _ [_,.int (IntKind.i64.wrap (IntKind.i64.wrap (16+IntKind.i64.wrap (c*8))+(i:Int)))] _ _ _
    rw[w1,w2,w3]
    refine za (zm2 (zu g) (16+c*8+(i:Int))) rfl ?_
    show ABr ((zu g).contains (16+c*8+(i:Int))) _ _
    refine⟨fun h=>?_,fun h=>?_⟩
    ·rw[h]at hs
     show AOb ((ziY g c i).length+1<=zk) _
     refine⟨by unfold zk;omega,?_⟩
     show ARound ..
     exact⟨⟨i+1,hlt⟩,by show 8-(i+1)<8-i;omega,[(_,1)],.cons _ _ _ .same (.cons _ _ _ .same (.cons _ _ _ (.c _ _ (.own1 _ _)) (.cons _ _ _ (.int_eq wi) .nil))),.old 1 _ _ _ _ rfl rfl (.data_eq hs.symm) .nil,rfl⟩
    ·rw[h]at hs
     show ARound ..
     exact⟨⟨i+1,hlt⟩,by show 8-(i+1)<8-i;omega,[(1,1)],.cons _ _ _ .same (.cons _ _ _ .same (.cons _ _ _ (.c _ _ (.own1 _ _)) (.cons _ _ _ (.int_eq wi) .nil))),.old 1 1 _ _ _ rfl rfl (.data_eq (by rw[hs];exact(List.append_nil _).symm)) .nil,rfl⟩
   ·have hge:i=8:=by have:=of_decide_eq_false h;omega
    subst hge
    show ARet ..
    exact zgL (.frz (k:=.int) (l:=ziY g c 8) rfl rfl) ⟨rfl,rfl⟩
theorem zsm (g:Hp) (c a:Int) (hl:g.light):Spec X 209 [] [g.tv,.int c,.int a] (Ret [] (.tup [.int ((zgn g c a).getD 0),.bo (zgn g c a).isSome])):=by
 refine zGO X_ok Tryz.f209 fun hb hH=>⟨rfl,?_⟩
 show ACall ..
 refine za (zxE g c hl) rfl ?_
 obtain⟨O,hO⟩:∃O,O=onH g c:=⟨_,rfl⟩
 have hlen:O.length<=8:=by
  rw[hO]
  unfold onH
  cases decide (0<=c/\c<(g.cards.length:Int))
  ·exact Nat.zero_le _
  ·exact zrD g c 8
 rw[←hO]
 obtain⟨o,ho⟩:∃o,o=zgn g c a:=⟨_,rfl⟩
 rw[←ho]
 show ∃n,_
 refine⟨0,ALoop.inv (ι:={i:Nat // i<=O.length/\zgn g c a=(O.drop i).find? fun b=>decide (a<b)&&(headH g b).old}) (fun i=>⟨[(2,.int a),(3,.c (.d (.rp g.enc))),(14,.c (.d (.sl .int O))),(15,.int O.length),(16,.int i.1)],[],64⟩) (fun i=>O.length-i.1) ⟨0,Nat.zero_le _,by unfold zgn;rw[←hO];rfl⟩ ?_ ?_⟩
 ·exact⟨[],.cons _ _ _ .same (.cons _ _ _ (.c _ _ (.frz _ _ rfl)) (.cons _ _ _ .same (.cons _ _ _ .same (.cons _ _ _ .same .nil)))),.nil,rfl⟩
 ·rintro⟨i,hi,he⟩
  show ABr (decide ((i:Int)<(O.length:Int))) _ _
  refine⟨fun h=>?_,fun h=>?_⟩
  ·have hlt:i<O.length:=by simpa using h
   have wi:IntKind.i64.wrap ((i:Int)+1)=((i+1:Nat):Int):=zad (i:=i) (by unfold zE;omega)
   obtain⟨b,hbb⟩:∃b,b=O.getD i default:=⟨_,rfl⟩
   have hd:O.drop i=b::O.drop (i+1):=by rw[hbb];exact zlT hlt
   rw[hd,List.find?_cons]at he
   show AOb ((0:Int)<=(i:Int)/\(i:Int)<(O.length:Int)) _
   refine⟨by omega,?_⟩
   show ABr (decide (O.getD i default<=a)) _ _
   rw[←hbb]
   refine⟨fun h=>?_,fun h=>?_⟩
   ·have hle:=of_decide_eq_true h
    rw[decide_eq_false (by omega)]at he
    show ARound ..
    exact⟨⟨i+1,hlt,he⟩,by show O.length-(i+1)<O.length-i;omega,[],.cons _ _ _ .same (.cons _ _ _ .same (.cons _ _ _ .same (.cons _ _ _ .same (.cons _ _ _ (.int_eq wi) .nil)))),.nil,rfl⟩
   ·have hgt:=of_decide_eq_false h
    rw[decide_eq_true (by omega)]at he
    show ACall _ _ [_,.int (O.getD i default)] _ _ _
    rw[←hbb]
    refine za (zaJ g b hl) rfl ?_
    show ABr (headH g b).old _ _
    refine⟨fun h=>?_,fun h=>?_⟩
    ·rw[h]at he
     have e1:o=some b:=ho.trans he
     subst e1 hbb
     show ARet ..
     exact zi rfl ⟨rfl,rfl⟩
    ·rw[h]at he
     show ARound ..
     exact⟨⟨i+1,hlt,he⟩,by show O.length-(i+1)<O.length-i;omega,[],.cons _ _ _ .same (.cons _ _ _ .same (.cons _ _ _ .same (.cons _ _ _ .same (.cons _ _ _ (.int_eq wi) .nil)))),.nil,rfl⟩
  ·have hge:i=O.length:=by simp at h;omega
   rw[hge,List.drop_length]at he
   have e1:o=none:=ho.trans he
   subst e1
   show ARet ..
   exact zi rfl ⟨rfl,rfl⟩
end Go.Abs
namespace Go.Abs
def ziA (g:Hp) (a:Int):Bool:=decide (headE g a=0)&&!(headH g a).old
def zax (g:Hp) (c:Col) (v:Int):Hp×Col:=if ziA g v=true then (zH g c v,{zG g c v with met:=true}) else (g,c)
def zpG (g:Hp) (c:Col):Hp×Col:=
 if headE g c.at_≠0\/c.field_<0\/(headH g c.at_).n<=c.field_ then (g,{c with at_:=0,field_:=0})
 else if c.field_+1=(headH g c.at_).n then ((zax g c (wordOf g (c.at_+1+c.field_))).1,{(zax g c (wordOf g (c.at_+1+c.field_))).2 with at_:=0,field_:=0})
 else ((zax g c (wordOf g (c.at_+1+c.field_))).1,{(zax g c (wordOf g (c.at_+1+c.field_))).2 with field_:=c.field_+1})
def zpm (g:Hp) (c:Col):Hp×Col:=
 if g.cards.getD c.card.toNat false=true then (zcO g c.card false,{c with seek:=1,met:=false,at_:=0,field_:=0}) else (g,{c with card:=c.card+1})
def ztT (g:Hp) (c:Col):Hp×Col:=
 ((if c.met=true then zcO g c.card true else g),{c with card:=c.card+1,seek:=0,met:=false})
def zhY (g : Hp) (c : Col) : Hp × Col :=
  if zx g [] = true /\ c.phase = 4 /\ 0 <= c.card then
    (if (g.cards.length : Int) <= c.card then (g, { c with phase := 5, seek := 0, card := 0, met := false, at_ := 0, field_ := 0 })
     else if c.seek = 0 then zpm g c
     else if c.at_ ≠ 0 then zpG g c
     else match zgn g c.card c.seek with
       | some a => (g, { c with at_ := a, field_ := 0, seek := a })
       | none => ztT g c)
  else (g, c)
inductive SStep (g:Hp) (c:Col):Hp->Col->Prop
 |idle (h:¬(zx g []=true/\c.phase=4/\0<=c.card)):SStep g c g c
 |fin (hm:zx g []=true) (hp:c.phase=4) (hc:(g.cards.length:Int)<=c.card):SStep g c g {c with phase:=5,seek:=0,card:=0,met:=false,at_:=0,field_:=0}
 |clean (hm:zx g []=true) (hp:c.phase=4) (h0:0<=c.card) (hc:c.card<(g.cards.length:Int)) (hs:c.seek=0) (hd:g.cards.getD c.card.toNat false=true):SStep g c (zcO g c.card false) {c with seek:=1,met:=false,at_:=0,field_:=0}
 |skip (hm:zx g []=true) (hp:c.phase=4) (h0:0<=c.card) (hc:c.card<(g.cards.length:Int)) (hs:c.seek=0) (hd:g.cards.getD c.card.toNat false=false):SStep g c g {c with card:=c.card+1}
 |lost (hm:zx g []=true) (hp:c.phase=4) (h0:0<=c.card) (hc:c.card<(g.cards.length:Int)) (hs:c.seek≠0) (ha:c.at_≠0) (hf:headE g c.at_≠0\/c.field_<0\/(headH g c.at_).n<=c.field_):SStep g c g {c with at_:=0,field_:=0}
 |last (hm:zx g []=true) (hp:c.phase=4) (h0:0<=c.card) (hc:c.card<(g.cards.length:Int)) (hs:c.seek≠0) (ha:c.at_≠0) (hE:headE g c.at_=0) (hf:0<=c.field_) (hl:c.field_+1=(headH g c.at_).n) (v:Int) (hv:v=wordOf g (c.at_+1+c.field_)) :
   SStep g c (zax g c v).1 {(zax g c v).2 with at_:=0,field_:=0}
 |more (hm:zx g []=true) (hp:c.phase=4) (h0:0<=c.card) (hc:c.card<(g.cards.length:Int)) (hs:c.seek≠0) (ha:c.at_≠0) (hE:headE g c.at_=0) (hf:0<=c.field_) (hl:c.field_+1<(headH g c.at_).n) (v:Int) (hv:v=wordOf g (c.at_+1+c.field_)) :
   SStep g c (zax g c v).1 {(zax g c v).2 with field_:=c.field_+1}
 |next (hm:zx g []=true) (hp:c.phase=4) (h0:0<=c.card) (hc:c.card<(g.cards.length:Int)) (hs:c.seek≠0) (ha:c.at_=0) (a:Int) (hn:zgn g c.card c.seek=some a):SStep g c g {c with at_:=a,field_:=0,seek:=a}
 |done (hm:zx g []=true) (hp:c.phase=4) (h0:0<=c.card) (hc:c.card<(g.cards.length:Int)) (hs:c.seek≠0) (ha:c.at_=0) (hn:zgn g c.card c.seek=none):SStep g c (if c.met=true then zcO g c.card true else g) {c with card:=c.card+1,seek:=0,met:=false}
theorem zvd (g:Hp) (c:Col):SStep g c (zhY g c).1 (zhY g c).2:=by
 unfold zhY
 by_cases h:zx g []=true/\c.phase=4/\0<=c.card
 ·rw[if_pos h]
  obtain⟨hm,hp,h0⟩:=h
  by_cases hc:(g.cards.length:Int)<=c.card
  ·rw[if_pos hc];exact .fin hm hp hc
  ·rw[if_neg hc]
   have hc:c.card<(g.cards.length:Int):=by omega
   by_cases hs:c.seek=0
   ·rw[if_pos hs]
    unfold zpm
    cases hd:g.cards.getD c.card.toNat false with
    |true=>rw[if_pos rfl];exact .clean hm hp h0 hc hs hd
    |false=>rw[if_neg (by decide)];exact .skip hm hp h0 hc hs hd
   ·rw[if_neg hs]
    by_cases ha:c.at_≠0
    ·rw[if_pos ha]
     unfold zpG
     by_cases hf:headE g c.at_≠0\/c.field_<0\/(headH g c.at_).n<=c.field_
     ·rw[if_pos hf];exact .lost hm hp h0 hc hs ha hf
     ·rw[if_neg hf]
      have hE:headE g c.at_=0:=Classical.byContradiction fun e=>hf (.inl e)
      by_cases hl:c.field_+1=(headH g c.at_).n
      ·rw[if_pos hl];exact .last hm hp h0 hc hs ha hE (by omega) hl _ rfl
      ·rw[if_neg hl];exact .more hm hp h0 hc hs ha hE (by omega) (by omega) _ rfl
    ·rw[if_neg ha]
     have ha:c.at_=0:=by simpa using ha
     cases hn:zgn g c.card c.seek with
     |some a=>exact .next hm hp h0 hc hs ha a hn
     |none=>exact .done hm hp h0 hc hs ha hn
 ·rw[if_neg h];exact .idle h
theorem zbJ (g:Hp) (c:Col) (v:Int):(ziA g v=true/\zax g c v=(zH g c v,{zG g c v with met:=true}))\/(ziA g v=false/\zax g c v=(g,c)):=by
 unfold zax
 cases ziA g v with
 |true=>exact .inl ⟨rfl,if_pos rfl⟩
 |false=>exact .inr ⟨rfl,if_neg (by decide)⟩
theorem zvt (g:Hp) (c:Col) (v:Int):Marks g (zax g c v).1:=by
 rcases zbJ g c v with⟨_,e⟩|⟨_,e⟩<;>rw[e]
 ·exact zbX g c v
 ·exact .refl g
theorem zuG (g:Hp) (c:Col) (v:Int):Rises c g (zax g c v).1:=by
 rcases zbJ g c v with⟨_,e⟩|⟨_,e⟩<;>rw[e]
 ·exact zg6 g c v
 ·exact .refl c g
theorem zwP (g:Hp) (c:Col) (v:Int) (i:Nat) (h:(zax g c v).1.w.getD i default≠g.w.getD i default):atK g c (16+(i:Int))=1:=by
 rcases zbJ g c v with⟨_,e⟩|⟨_,e⟩
 ·rw[e]at h
  obtain⟨h1,h2⟩:=zkw g c v i h
  rw[show 16+(i:Int)=v by omega]
  exact h2
 ·rw[e]at h;exact absurd rfl h
theorem zi2 (g:Hp) (c:Col) (v:Int):(zax g c v).2.phase=c.phase/\(zax g c v).2.epoch=c.epoch/\(zax g c v).2.major=c.major/\(zax g c v).2.at_=c.at_/\(zax g c v).2.field_=c.field_/\(zax g c v).2.seek=c.seek/\(zax g c v).2.card=c.card:=by
 rcases zbJ g c v with⟨_,e⟩|⟨_,e⟩<;>rw[e]
 ·have h:=zY g c v
  exact⟨h.phase,h.epoch,h.major,h.at_,h.field_,h.seek,h.card⟩
 ·exact⟨rfl,rfl,rfl,rfl,rfl,rfl,rfl⟩
theorem zvH (g:Hp) (c:Col) (v:Int) (h:c.work.length<=100):(zax g c v).2.work.length<=100:=by
 rcases zbJ g c v with⟨_,e⟩|⟨_,e⟩<;>rw[e]
 ·exact zoT g c v h
 ·exact h
structure SKeep (g k:Hp) (c d:Col):Prop where
 pages:k.pages=g.pages
 free:k.free=g.free
 wlen:k.w.length=g.w.length
 clen:k.cards.length=g.cards.length
 may:∀cs,zx k cs=zx g cs
 used:zu k=zu g
 headE:∀u,Abs.headE k u=Abs.headE g u
 head:∀u,(headH k u).used=(headH g u).used/\(headH k u).old=(headH g u).old/\(headH k u).n=(headH g u).n/\(headH k u).born=(headH g u).born
 word:∀i:Nat,k.w.getD i default≠g.w.getD i default->atK g c (16+(i:Int))=1
 card:∀j:Nat,k.cards.getD j false≠g.cards.getD j false->(j:Int)=c.card
 rises:Rises c g k
 epoch:d.epoch=c.epoch
 major:d.major=c.major
 work:c.work.length<=100->d.work.length<=100
theorem zmK (g:Hp) (c d:Col) (h1:d.epoch=c.epoch) (h2:d.major=c.major) (h3:d.work=c.work):SKeep g g c d:=
 ⟨rfl,rfl,rfl,rfl,fun _=>rfl,rfl,fun _=>rfl,fun _=>⟨rfl,rfl,rfl,rfl⟩,fun _ h=>absurd rfl h,fun _ h=>absurd rfl h,.refl c g,h1,h2,fun h=>h3▸h⟩
theorem zpP (g:Hp) (n:Int) (b:Bool) (c:Col) (u:Int):atK (zcO g n b) c u=atK g c u:=by unfold atK;rw[zen,zid]
theorem zl0 (g:Hp) (c d:Col) (b:Bool) (h0:0<=c.card) (h1:d.epoch=c.epoch) (h2:d.major=c.major) (h3:d.work=c.work):SKeep g (zcO g c.card b) c d:=by
 refine⟨rfl,rfl,rfl,zw1 g c.card b,zjl g c.card b,zuC g c.card b,zen g c.card b,fun u=>by rw[zid];exact⟨rfl,rfl,rfl,rfl⟩,fun _ h=>absurd rfl h,fun j hj=>?_,⟨fun u=>by rw[zpP];exact Int.le_refl _,fun u e=>by rw[zpP];exact e⟩,h1,h2,fun h=>h3▸h⟩
 apply Classical.byContradiction
 intro hne
 apply hj
 show(g.cards.set c.card.toNat b).getD j false=_
 rw[List.getD_eq_getElem?_getD,List.getElem?_set_ne (by omega),List.getD_eq_getElem?_getD]
theorem znb (g:Hp) (c d:Col) (v:Int) (h1:d.epoch=(zax g c v).2.epoch) (h2:d.major=(zax g c v).2.major) (h3:d.work=(zax g c v).2.work):SKeep g (zax g c v).1 c d:=by
 have hM:=zvt g c v
 obtain⟨_,c2,c3,_⟩:=zi2 g c v
 exact⟨hM.pages,hM.free,hM.len,by rw[hM.cards],hM.may,hM.used,hM.headE,hM.head,zwP g c v,fun j h=>absurd (by rw[hM.cards]) h,zuG g c v,h1.trans c2,h2.trans c3,fun h=>by rw[h3];exact zvH g c v h⟩
theorem SStep.keep {g k:Hp} {c d:Col} (h:SStep g c k d):SKeep g k c d:=by
 cases h
 case clean h0 hc hs hd hm hp=>exact zl0 g c _ false (by assumption) rfl rfl rfl
 case last v hv=>exact znb g c _ v rfl rfl rfl
 case more v hv=>exact znb g c _ v rfl rfl rfl
 case done=>
  by_cases hm:c.met=true
  ·rw[if_pos hm];exact zl0 g c _ true (by assumption) rfl rfl rfl
  ·rw[if_neg hm];exact zmK g c _ rfl rfl rfl
 all_goals exact zmK g c _ rfl rfl rfl
open Go.Proofs Go.Proofs.YtlankjlnnimdoaaGreatDoor
set_option maxRecDepth 8000
theorem zvN {g:Hp} {c:Int} {n:Nat} {a:Int}:a∈ziY g c n↔a∈zu g/\16+c*8<=a/\a<16+c*8+(n:Int):=by
 unfold ziY
 rw[List.mem_filter]
 constructor
 ·rintro⟨h1,h2⟩
  obtain⟨i,hi,rfl⟩:=List.mem_map.1 h1
  rw[List.mem_range]at hi
  exact⟨List.contains_iff_mem.1 h2,by omega,by omega⟩
 ·rintro⟨h1,h2,h3⟩
  exact⟨List.mem_map.2 ⟨(a-(16+c*8)).toNat,List.mem_range.2 (by omega),by omega⟩,List.contains_iff_mem.2 h1⟩
theorem zqt (g:Hp) (c:Int) (n:Nat):(ziY g c n).Pairwise (· < ·):=by
 unfold ziY
 refine List.Pairwise.filter _ ?_
 rw[List.pairwise_map]
 exact List.Pairwise.imp (fun h=>by omega) List.pairwise_lt_range
theorem zrW (g:Hp) (c:Int):(onH g c).Pairwise (· < ·):=by
 unfold onH
 cases decide (0<=c/\c<(g.cards.length:Int))
 ·exact List.Pairwise.nil
 ·exact zqt g c 8
end Go.Abs
namespace Go.Abs
theorem zya {g:Hp} {n u:Int} (h0:0<=n) (hc:n<(g.cards.length:Int)):u∈onH g n↔headE g u=0/\16+n*8<=u/\u<16+n*8+8:=by
 unfold onH
 rw[decide_eq_true ⟨h0,hc⟩]
 show u∈ziY g n 8↔_
 rw[zvN,zaa]
 rfl
theorem ztd {g:Hp} {n a b:Int} (h:zgn g n a=some b):b∈onH g n/\a<b/\(headH g b).old=true/\∀u∈onH g n,a<u->(headH g u).old=true->b<=u:=by
 unfold zgn at h
 obtain⟨h1,xs,bs,e,h2⟩:=List.find?_eq_some_iff_append.1 h
 rw[Bool.and_eq_true,decide_eq_true_eq]at h1
 have hs:=zrW g n
 rw[e]at hs ⊢
 refine⟨by simp,h1.1,h1.2,fun u hu ha ho=>?_⟩
 rcases List.mem_append.1 hu with hu|hu
 ·have:=h2 u hu
  rw[decide_eq_true ha,ho]at this
  cases this
 ·rcases List.mem_cons.1 hu with hu|hu
  ·omega
  ·have h3:=(List.pairwise_append.1 hs).2.1
   rw[List.pairwise_cons]at h3
   exact Int.le_of_lt (h3.1 u hu)
def sumI (l:List Int) (f:Int->Int):Int:=(l.map f).sum
theorem zwu (f:Int->Int):sumI [] f=0:=rfl
theorem zaN (x:Int) (l:List Int) (f:Int->Int):sumI (x::l) f=f x+sumI l f:=by unfold sumI;simp
theorem ziw {l:List Int} {f h:Int->Int} (e:∀x∈l,f x=h x):sumI l f=sumI l h:=by
 induction l with
 |nil=>rfl
 |cons x r ih=>rw[zaN,zaN,e x (List.mem_cons_self ..),ih fun y hy=>e y (List.mem_cons_of_mem _ hy)]
theorem zhz {l:List Int} {f h:Int->Int} (e:∀x∈l,f x<=h x):sumI l f<=sumI l h:=by
 induction l with
 |nil=>exact Int.le_refl _
 |cons x r ih=>
  rw[zaN,zaN]
  have:=e x (List.mem_cons_self ..)
  have:=ih fun y hy=>e y (List.mem_cons_of_mem _ hy)
  omega
theorem zdC {l:List Int} {f:Int->Int} (e:∀x∈l,0<=f x):0<=sumI l f:=by
 induction l with
 |nil=>exact Int.le_refl _
 |cons x r ih=>
  rw[zaN]
  have:=e x (List.mem_cons_self ..)
  have:=ih fun y hy=>e y (List.mem_cons_of_mem _ hy)
  omega
theorem zgN {l:List Int} (hn:l.Nodup) {f h:Int->Int} {a:Int} (ha:a∈l) (e:∀x∈l,x≠a->h x=f x):sumI l h=sumI l f-f a+h a:=by
 induction l with
 |nil=>cases ha
 |cons x r ih=>
  rw[List.nodup_cons]at hn
  rw[zaN,zaN]
  by_cases hx:x=a
  ·subst hx
   rw[ziw (l:=r) (f:=h) (h:=f) fun y hy=>e y (List.mem_cons_of_mem _ hy) fun k=>hn.1 (k▸hy)]
   omega
  ·have ha' : a∈r:=by
    rcases List.mem_cons.1 ha with k|k
    ·exact absurd k.symm hx
    ·exact k
   rw[e x (List.mem_cons_self ..) hx,ih hn.2 ha' fun y hy=>e y (List.mem_cons_of_mem _ hy)]
   omega
theorem zqd (l:List Int) (f h:Int->Int):sumI l (fun x=>f x+h x)=sumI l f+sumI l h:=by
 induction l with
 |nil=>rfl
 |cons x r ih=>rw[zaN,zaN,zaN,ih];omega
theorem zfQ (l:List Int) (k:Int):sumI l (fun _=>k)=k*(l.length:Int):=by
 induction l with
 |nil=>simp[zwu]
 |cons x r ih=>
  rw[zaN,ih,List.length_cons]
  have:k*((r.length+1:Nat):Int)=k*(r.length:Int)+k:=by rw[Int.natCast_add,Int.mul_add];simp
  omega
theorem zkp {l:List Int} (p:Int->Bool) {f:Int->Int} (h:∀x∈l,0<=f x):sumI (l.filter p) f<=sumI l f:=by
 induction l with
 |nil=>exact Int.le_refl _
 |cons x r ih=>
  have:=ih fun y hy=>h y (List.mem_cons_of_mem _ hy)
  have h0:=h x (List.mem_cons_self ..)
  rw[List.filter_cons]
  cases p x with
  |true=>rw[if_pos rfl,zaN,zaN];omega
  |false=>rw[if_neg (by decide),zaN];omega
def zep (i:Nat) (ps:List Page):Int:=((zbs i ps).map (·.2)).sum
theorem zxu (n:Nat) (W b:Int):(((List.range n).map fun i:Nat=>(b+(i:Int)*W,W)).map (·.2)).sum=(n:Int)*W:=by
 induction n with
 |zero=>simp
 |succ n ih=>
  rw[List.range_succ,List.map_append,List.map_append,List.sum_append,ih]
  have:((n+1:Nat):Int)*W=(n:Int)*W+W:=by rw[Int.natCast_add,Int.add_mul];simp
  rw[this]
  simp
theorem zxq {p:Page} {b:Int} (hp:zbv p):((zD p b).map (·.2)).sum=if p.kind=2 then p.arg*16 else if p.kind=1 then 16 else 0:=by
 unfold zD
 by_cases h2:p.kind=2
 ·rw[if_pos h2,if_pos h2];simp
 ·rw[if_neg h2,if_neg h2]
  by_cases h1:p.kind=1
  ·rw[if_pos h1,if_pos h1,zxu]
   rcases zhV (hp.1 h1) with⟨e1,e2⟩|⟨e1,e2⟩|⟨e1,e2⟩<;>rw[e1,e2]<;>decide
  ·rw[if_neg h1,if_neg h1];rfl
theorem zqQ:∀(ps:List Page) (i:Nat) (r:Int),pgo r ps=true->0<=r->(∀p∈ps,zbv p)->zep i ps+16*r<=16*(ps.length:Int)
 |[],i,r,h,_,_=>by
  unfold pgo at h
  have:=of_decide_eq_true h
  subst this
  simp[zep,zbs]
 |p::ps,i,r,h,hr,hp=>by
  have hl:((p::ps).length:Int)=(ps.length:Int)+1:=by simp
  have ih:=fun r' (h' : pgo r' ps=true) (hr' : 0<=r')=>zqQ ps (i+1) r' h' hr' fun q hq=>hp q (List.mem_cons_of_mem _ hq)
  have e:zep i (p::ps)=((zD p (16*((i:Int)+1))).map (·.2)).sum+zep (i+1) ps:=by
   unfold zep
   show((zD p (16*((i:Int)+1))++zbs (i+1) ps).map (·.2)).sum=_
   rw[List.map_append,List.sum_append]
  have hpp:=hp p (List.mem_cons_self ..)
  rw[e,zxq hpp,hl]
  unfold pgo at h
  by_cases h3:p.kind=3
  ·rw[decide_eq_true h3]at h
   simp only[cond_true,Bool.and_eq_true,Bool.not_eq_true',decide_eq_false_iff_not]at h
   have:=ih (r-1) h.2 (by omega)
   rw[if_neg (by omega),if_neg (by omega)]
   omega
  ·rw[decide_eq_false h3]at h
   simp only[cond_false,Bool.and_eq_true,Bool.not_eq_true',decide_eq_false_iff_not]at h
   obtain⟨⟨hf,h0⟩,h⟩:=h
   by_cases hk2:p.kind=2
   ·rw[if_pos hk2]at h ⊢
    have:=hpp.2 hk2
    have:=ih _ h (by omega)
    omega
   ·rw[if_neg hk2]at h ⊢
    have:=ih _ h (by omega)
    split<;>omega
theorem zjY {l:List Page} (hmp:zar l=true):sumI (cellStarts l) (ze l)<=16*(l.length:Int):=by
 have e0:cellsAll l=zbs 0 l:=by
  unfold cellsAll
  rw[if_pos hmp,zdz l _ 0 rfl]
  rfl
 have e:sumI (cellStarts l) (ze l)=zep 0 l:=by
  unfold sumI cellStarts zep
  rw[List.map_map,←e0]
  congr 1
  exact List.map_congr_left fun x hx=>zbA hx
 have:=zqQ l 0 0 (by unfold zar at hmp;rw[Bool.and_eq_true]at hmp;exact hmp.1) (Int.le_refl _) (zp7 hmp)
 omega
theorem zwb {l:List Page} {a:Int} (h:ze l a≠0):2<=ze l a:=by
 obtain⟨_,i,hi⟩:=zap (zz h)
 have hk:=hi.kind
 simp only at hk
 rcases hk with⟨_,k2,k3,_,k5⟩|⟨_,k2,k3,_,k5⟩
 ·rw[k5];rcases zhV ⟨k2,k3⟩ with⟨e,_⟩|⟨e,_⟩|⟨e,_⟩<;>omega
 ·omega
theorem zkD {l:List Page} (hmp:zar l=true):2*((cellStarts l).length:Int)<=16*(l.length:Int):=by
 have h1:=zjY hmp
 have h2:sumI (cellStarts l) (fun _=>2)<=sumI (cellStarts l) (ze l):=zhz fun x hx=>zwb (zw.1 hx)
 rw[zfQ]at h2
 omega
def zaU (g:Hp) (c:Col) (u:Int):Int:=if atK g c u=1 then (headH g u).n+2 else if atK g c u=2 then (headH g u).n else 0
def isW (g:Hp) (c:Col) (u:Int):Int:=if atK g c u=1 then 1 else 0
def zcV (g:Hp):Int:=((cellStarts g.pages).length:Int)
def zbl (g:Hp) (c:Col):Int:=if c.seek≠0 then (((cellStarts g.pages).filter fun s=>decide (c.seek<s)).length:Int)+1 else 0
def atF (g:Hp) (c:Col):Int:=if c.at_=0 then 0 else if atK g c c.at_=2 then c.field_ else -1
def zbx (K:Int) (over:Bool) (l:Nat):Int:=if over=true then 5*K else K*(if l<=4 then (l:Int) else 4)
def pot (g:Hp) (c:Col):Int:=
 5*(sumI (zu g) (zaU g c)-atF g c+2*(c.work.length:Int)+zbl g c+1)+(zcV g+2)*sumI (zu g) (isW g c)+zbx (zcV g+2) c.over c.work.length
theorem zel (g:Hp):(zu g).Nodup:=(zoA g).imp fun h=>by omega
theorem ziE (g:Hp) (c:Col) (u:Int):0<=zaU g c u:=by
 unfold zaU
 by_cases h1:atK g c u=1
 ·rw[if_pos h1]
  have:=(zaj (zeB (c:=c) (g:=g) (a:=u) (by omega))).2.1
  omega
 ·rw[if_neg h1]
  by_cases h2:atK g c u=2
  ·rw[if_pos h2]
   have:=(zaj (zeB (c:=c) (g:=g) (a:=u) (by omega))).2.1
   omega
  ·rw[if_neg h2];exact Int.le_refl _
theorem zmE (g:Hp) (c:Col) (u:Int):0<=isW g c u:=by unfold isW;split<;>omega
theorem zlC (g:Hp) (c:Col) (v:Int):sumI (zu g) (zaU (zH g c v) c)=sumI (zu g) (zaU g c)-(if atK g c v=1 then 2 else 0) /\
  sumI (zu g) (isW (zH g c v) c)=sumI (zu g) (isW g c)-(if atK g c v=1 then 1 else 0):=by
 have hn:=ziI (zbX g c v)
 by_cases hv:atK g c v=1
 ·rw[if_pos hv,if_pos hv]
  have hin:v∈zu g:=zaa.2 (zeB (c:=c) (by omega))
  have hne:∀x,x≠v->atK (zH g c v) c x=atK g c x:=fun x hx=>by rw[zbL,if_neg (fun k=>hx k.1)]
  have hvv:atK (zH g c v) c v=2:=by rw[zbL,if_pos ⟨rfl,hv⟩]
  constructor
  ·rw[zgN (zel g) (f:=zaU g c) (h:=zaU (zH g c v) c) hin fun x _ hx=>by unfold zaU;rw[hne x hx,hn]]
   unfold zaU
   rw[if_pos hv,if_neg (by omega),if_pos hvv,hn]
   omega
  ·rw[zgN (zel g) (f:=isW g c) (h:=isW (zH g c v) c) hin fun x _ hx=>by unfold isW;rw[hne x hx]]
   unfold isW
   rw[if_pos hv,if_neg (by omega)]
   omega
 ·rw[if_neg hv,if_neg hv,zdn hv]
  omega
theorem zsQ {g:Hp} {c:Col} {a:Int} (ha:atK g c a=2):sumI (zu g) (zaU (zak g c a) c)=sumI (zu g) (zaU g c)-(headH g a).n /\
  sumI (zu g) (isW (zak g c a) c)=sumI (zu g) (isW g c):=by
 have hn:=ziI (zkW g c a)
 have hin:a∈zu g:=zaa.2 (zeB (c:=c) (by omega))
 have hne:∀x,x≠a->atK (zak g c a) c x=atK g c x:=fun x hx=>by rw[zfH,if_neg (fun k=>hx k.1)]
 have haa:atK (zak g c a) c a=3:=by rw[zfH,if_pos ⟨rfl,ha⟩]
 constructor
 ·rw[zgN (zel g) (f:=zaU g c) (h:=zaU (zak g c a) c) hin fun x _ hx=>by unfold zaU;rw[hne x hx,hn]]
  unfold zaU
  rw[if_neg (by omega),if_pos ha,if_neg (by omega),if_neg (by omega)]
  omega
 ·refine ziw fun x _=>?_
  unfold isW
  by_cases e:x=a
  ·subst e
   rw[if_neg (by omega),if_neg (by omega)]
  ·rw[hne x e]
theorem zsH {K:Int} (hK:0<=K) {o:Bool} {l m:Nat} (h:l<=m):zbx K o l<=zbx K o m:=by
 unfold zbx
 cases o
 ·simp only[Bool.false_eq_true,if_false]
  refine Int.mul_le_mul_of_nonneg_left ?_ hK
  by_cases h1:l<=4
  ·rw[if_pos h1]
   split<;>omega
  ·rw[if_neg h1,if_neg (by omega)]
   exact Int.le_refl _
 ·simp only[if_true]
  exact Int.le_refl _
theorem zeU (g:Hp):0<=zcV g:=by unfold zcV;omega
theorem zn3 (g:Hp) (c:Col) (v:Int) {K:Int} (hK:0<=K) :
  5*(sumI (zu g) (zaU (zH g c v) c)+2*((zG g c v).work.length:Int))+K*sumI (zu g) (isW (zH g c v) c)+zbx K (zG g c v).over (zG g c v).work.length <=
  5*(sumI (zu g) (zaU g c)+2*(c.work.length:Int))+K*sumI (zu g) (isW g c)+zbx K c.over c.work.length:=by
 obtain⟨e1,e2⟩:=zlC g c v
 rw[e1,e2]
 by_cases hv:atK g c v=1
 ·rw[if_pos hv,if_pos hv,zil hv]
  have hmul:K*(sumI (zu g) (isW g c)-1)=K*sumI (zu g) (isW g c)-K:=by rw[Int.mul_sub];simp
  rw[hmul]
  by_cases h4:c.work.length<4
  ·rw[if_pos h4]
   show 5*(_+2*((c.work++[v]).length:Int))+_+zbx K c.over (c.work++[v]).length<=_
   rw[List.length_append,List.length_singleton]
   unfold zbx
   cases c.over
   ·simp only[Bool.false_eq_true,if_false]
    rw[if_pos (show c.work.length+1<=4 by omega),if_pos (show c.work.length<=4 by omega)]
    have:K*((c.work.length+1:Nat):Int)=K*(c.work.length:Int)+K:=by rw[Int.natCast_add,Int.mul_add];simp
    omega
   ·simp only[if_true]
    omega
  ·rw[if_neg h4]
   show 5*(_+2*(c.work.length:Int))+_+zbx K true c.work.length<=_
   unfold zbx
   cases c.over
   ·simp only[Bool.false_eq_true,if_false,if_true]
    have h44:(if c.work.length<=4 then (c.work.length:Int) else 4)=4:=by split<;>omega
    rw[h44]
    omega
   ·simp only[if_true]
    omega
 ·rw[if_neg hv,if_neg hv,zkj hv]
  simp
theorem zr1 {g k:Hp} (h:Marks g k):zcV k=zcV g:=by unfold zcV;rw[h.pages]
theorem zm7 {l:List Int} {a b:Int} (h:a<b) (hb:b∈l):((l.filter fun s=>decide (b<s)).length:Int)+1<=((l.filter fun s=>decide (a<s)).length:Int):=by
 induction l with
 |nil=>cases hb
 |cons x r ih=>
  have hle:((r.filter fun s=>decide (b<s)).length:Int)<=((r.filter fun s=>decide (a<s)).length:Int):=by
   have:(r.filter fun s=>decide (b<s)).length<=(r.filter fun s=>decide (a<s)).length:=by
    rw[←List.countP_eq_length_filter,←List.countP_eq_length_filter]
    exact List.countP_mono_left fun x _ hx=>by
     have:=of_decide_eq_true hx
     exact decide_eq_true (by omega)
   omega
  rw[List.filter_cons,List.filter_cons]
  rcases List.mem_cons.1 hb with e|hb
  ·subst e
   rw[decide_eq_false (show ¬b<b by omega),decide_eq_true h,if_neg (by decide),if_pos rfl,List.length_cons]
   omega
  ·have:=ih hb
   by_cases hx:b<x
   ·rw[decide_eq_true hx,decide_eq_true (show a<x by omega),if_pos rfl,if_pos rfl,List.length_cons,List.length_cons]
    omega
   ·rw[decide_eq_false hx,if_neg (by decide)]
    by_cases hx' : a<x
    ·rw[decide_eq_true hx',if_pos rfl,List.length_cons];omega
    ·rw[decide_eq_false hx',if_neg (by decide)];omega
theorem zn6 {g:Hp} {c d:Col} (hs:c.seek≠0) (hd:d.seek=zM g.pages c.seek):zbl g d+1<=zbl g c:=by
 unfold zbl
 rw[if_pos hs,hd]
 rcases zkE g.pages c.seek with⟨h1,h2⟩|⟨h1,h2,h3⟩
 ·rw[if_neg (fun k=>k h1)]
  omega
 ·have h6:=(zaL (h:=g) (zw.1 h2)).1
  rw[if_pos (by omega)]
  have:=zm7 h1 h2
  omega
theorem zvS {g k:Hp} {c d:Col} (h:TStep g c k d) (hm:zx g []=true) (hp:c.phase=5) (ht:TA g c) (hd:d.phase=5):pot k d+5<=pot g c:=by
 have hM:=h.marks
 have hat:=h.at
 have hK:0<=zcV g+2:=by have:=zeU g;omega
 have hcd:∀m,zaU m d=zaU m c:=fun m=>by funext u;unfold zaU;rw[hat]
 have hwd:∀m,isW m d=isW m c:=fun m=>by funext u;unfold isW;rw[hat]
 unfold pot
 rw[hM.used,zr1 hM,hcd,hwd]
 cases h
 case idle h=>exact absurd ⟨hm,hp⟩ h
 case lost _ _ ha h=>
  have hng:atK g c c.at_≠2:=by
   intro hg
   have h1:=ht.f0 ha
   have h2:=ht.fn hg ha
   have h3:zaT g c c.at_=(headH g c.at_).n:=if_pos hg
   omega
  have e1:atF g c = -1:=by unfold atF;rw[if_neg ha,if_neg hng]
  have e2:atF g {c with at_:=0,field_:=0}=0:=by unfold atF;rw[if_pos rfl]
  have e3:zbl g {c with at_:=0,field_:=0}=zbl g c:=rfl
  rw[e1,e2,e3]
  show 5*(_-0+2*(c.work.length:Int)+_+1)+_+zbx _ c.over c.work.length+5<=_
  omega
 case last _ _ ha h0 h v hv=>
  have hg:atK g c c.at_=2:=zcC.1 (by have:=(zlC g c v);omega)
  have hN:zaT g c c.at_=(headH g c.at_).n:=if_pos hg
  have hg1:atK (zH g c v) c c.at_=2:=by rw[zbL,if_neg (fun k=>by have:=k.2;rw[←k.1]at this;omega)];exact hg
  obtain⟨b1,b2⟩:=zsQ hg1
  rw[zkM]at b1 b2
  have hn1:=ziI (zbX g c v) c.at_
  rw[hn1]at b1
  have sp:=zn3 g c v hK
  rw[b1,b2]
  have e1:atF g c=c.field_:=by unfold atF;rw[if_neg ha,if_pos hg]
  have e2:atF (zak (zH g c v) c c.at_) {zG g c v with at_:=0,field_:=0}=0:=by unfold atF;rw[if_pos rfl]
  have e3:zbl (zak (zH g c v) c c.at_) {zG g c v with at_:=0,field_:=0}=zbl g c:=by
   unfold zbl
   rw[hM.pages]
   show(if (zG g c v).seek≠0 then _ else _)=_
   rw[(zY g c v).seek]
  rw[e1,e2,e3]
  show 5*(_-_-0+2*((zG g c v).work.length:Int)+_+1)+_+zbx _ (zG g c v).over (zG g c v).work.length+5<=_
  omega
 case more _ _ ha h0 h v hv=>
  have hg:atK g c c.at_=2:=zcC.1 (by omega)
  have hg1:atK (zH g c v) c c.at_=2:=by rw[zbL,if_neg (fun k=>by have:=k.2;rw[←k.1]at this;omega)];exact hg
  have sp:=zn3 g c v hK
  have ea:({zG g c v with field_:=c.field_+1}:Col).at_=c.at_:=(zY g c v).at_
  have e1:atF g c=c.field_:=by unfold atF;rw[if_neg ha,if_pos hg]
  have e2:atF (zH g c v) {zG g c v with field_:=c.field_+1}=c.field_+1:=by unfold atF;rw[ea,if_neg ha,hat,if_pos hg1]
  have e3:zbl (zH g c v) {zG g c v with field_:=c.field_+1}=zbl g c:=by
   unfold zbl
   rw[hM.pages]
   show(if (zG g c v).seek≠0 then _ else _)=_
   rw[(zY g c v).seek]
  rw[e1,e2,e3]
  show 5*(_-(c.field_+1)+2*((zG g c v).work.length:Int)+_+1)+_+zbx _ (zG g c v).over (zG g c v).work.length+5<=_
  omega
 case pop _ _ ha r x hw=>
  have e1:atF g c=0:=by unfold atF;rw[if_pos ha]
  have e2:-1<=atF g {c with at_:=x,field_:=0,work:=r}:=by
   unfold atF
   by_cases h1:({c with at_:=x,field_:=0,work:=r}:Col).at_=0
   ·rw[if_pos h1];omega
   ·rw[if_neg h1]
    split
    ·show(-1:Int)<=0;omega
    ·exact Int.le_refl _
  have e3:zbl g {c with at_:=x,field_:=0,work:=r}=zbl g c:=rfl
  have hl:c.work.length=r.length+1:=by rw[hw];simp
  have ov:=zsH hK (o:=c.over) (l:=r.length) (m:=c.work.length) (by omega)
  rw[e1,e3]
  show 5*(_-atF g {c with at_:=x,field_:=0,work:=r}+2*(r.length:Int)+_+1)+_+zbx _ c.over r.length+5<=_
  omega
 case pass _ _ ha hw hs hg=>
  have e1:atF g c=0:=by unfold atF;rw[if_pos ha]
  have e2:atF g {c with seek:=zM g.pages c.seek}=0:=by unfold atF;rw[if_pos ha]
  have e3:=zn6 (g:=g) (c:=c) (d:={c with seek:=zM g.pages c.seek}) hs rfl
  rw[e1,e2]
  show 5*(_-0+2*(c.work.length:Int)+zbl g {c with seek:=zM g.pages c.seek}+1)+_+zbx _ c.over c.work.length+5<=_
  omega
 case find _ _ ha hw hs hg=>
  have hg' : atK g c (zM g.pages c.seek)=2:=zcC.1 hg
  have e1:atF g c=0:=by unfold atF;rw[if_pos ha]
  have e2:atF g {c with seek:=zM g.pages c.seek,at_:=zM g.pages c.seek,field_:=0}=0:=by
   unfold atF
   split
   ·rfl
   ·rw[if_pos (by rw[hat];exact hg')]
  have e3:=zn6 (g:=g) (c:=c) (d:={c with seek:=zM g.pages c.seek,at_:=zM g.pages c.seek,field_:=0}) hs rfl
  rw[e1,e2]
  show 5*(_-0+2*(c.work.length:Int)+zbl g {c with seek:=zM g.pages c.seek,at_:=zM g.pages c.seek,field_:=0}+1)+_+zbx _ c.over c.work.length+5<=_
  omega
 case again _ _ ha hw hs ho=>
  have e1:atF g c=0:=by unfold atF;rw[if_pos ha]
  have e2:atF g {c with over:=false,seek:=1}=0:=by unfold atF;rw[if_pos ha]
  have e3:zbl g c=0:=by unfold zbl;rw[if_neg (fun k=>k hs)]
  have e4:zbl g {c with over:=false,seek:=1}<=zcV g+1:=by
   unfold zbl zcV
   rw[if_pos (show(1:Int)≠0 by decide)]
   have:=List.length_filter_le (fun s=>decide ((1:Int)<s)) (cellStarts g.pages)
   show((List.filter (fun s=>decide ((1:Int)<s)) (cellStarts g.pages)).length:Int)+1<=_
   omega
  have hl0:c.work.length=0:=by rw[hw];rfl
  have ov1:zbx (zcV g+2) c.over c.work.length=5*(zcV g+2):=by unfold zbx;rw[if_pos ho]
  have ov2:zbx (zcV g+2) false c.work.length=0:=by
   rw[hl0]
   unfold zbx
   simp
  rw[e1,e2,e3,ov1]
  show 5*(_-0+2*(c.work.length:Int)+zbl g {c with over:=false,seek:=1}+1)+_+zbx _ false c.work.length+5<=_
  rw[ov2]
  omega
 case fin=>exact absurd (show(6:Int)=5 from hd) (by decide)
theorem zt6 {g:Hp} {c:Col} (ht:TA g c):5<=pot g c:=by
 unfold pot
 have h1:0<=sumI (zu g) (isW g c):=zdC fun x _=>zmE g c x
 have h2:0<=(zcV g+2)*sumI (zu g) (isW g c):=Int.mul_nonneg (by have:=zeU g;omega) h1
 have h3:0<=zbx (zcV g+2) c.over c.work.length:=by
  unfold zbx
  have:=zeU g
  split
  ·omega
  ·refine Int.mul_nonneg (by omega) ?_
   split<;>omega
 have h4:0<=zbl g c:=by unfold zbl;split<;>omega
 have h5:atF g c<=sumI (zu g) (zaU g c):=by
  have h0:0<=sumI (zu g) (zaU g c):=zdC fun x _=>ziE g c x
  unfold atF
  by_cases ha:c.at_=0
  ·rw[if_pos ha];exact h0
  ·rw[if_neg ha]
   by_cases hg:atK g c c.at_=2
   ·rw[if_pos hg]
    have hfn:=ht.fn hg ha
    have hin:c.at_∈zu g:=zaa.2 (zeB (c:=c) (by omega))
    have:=zgN (zel g) (f:=zaU g c) (h:=fun x=>if x=c.at_ then 0 else zaU g c x) hin fun x _ hx=>if_neg hx
    have h6:0<=sumI (zu g) (fun x=>if x=c.at_ then 0 else zaU g c x):=zdC fun x _=>by
     show 0<=(if x=c.at_ then 0 else zaU g c x)
     split
     ·exact Int.le_refl _
     ·exact ziE g c x
    have h7:zaU g c c.at_=(headH g c.at_).n:=by unfold zaU;rw[if_neg (by omega),if_pos hg]
    simp only[if_true]at this
    omega
   ·rw[if_neg hg];omega
 omega
theorem zj0 {g:Hp} {c:Col} (hm:zx g []=true) (ha:c.at_=0) (hs:c.seek=0) (hw:c.work.length<=4):pot g c<=5*((g.w.length:Int)*(g.w.length:Int) / 4+40):=by
 obtain⟨_,hmp,hsl,_,_,h64⟩:=zl (zA hm)
 have hC:=zkD hmp
 have hrm:=zjY hmp
 have hU:((zu g).length:Int)<=zcV g:=by
  unfold zcV
  rw[zbp hm]
  have:=List.length_filter_le (fun a=>zf g a != 0) (cellStarts g.pages)
  omega
 have h1:sumI (zu g) (zaU g c)<=sumI (zu g) (ze g.pages)+((zu g).length:Int):=by
  have e:sumI (zu g) (ze g.pages)+((zu g).length:Int)=sumI (zu g) (fun x=>ze g.pages x+1):=by
   rw[zqd,zfQ]
   omega
  rw[e]
  refine zhz fun x hx=>?_
  have:=(zaj (zaa.1 hx)).2.2.1
  unfold zaU
  split
  ·omega
  ·split
   ·omega
   ·have:=(zaj (zaa.1 hx)).2.1
    omega
 have h2:sumI (zu g) (ze g.pages)<=sumI (cellStarts g.pages) (ze g.pages):=by
  rw[zbp hm]
  exact zkp _ fun x _=>zcn _ _
 have h3:sumI (zu g) (isW g c)<=((zu g).length:Int):=by
  have:sumI (zu g) (isW g c)<=sumI (zu g) (fun _=>1):=zhz fun x _=>by unfold isW;split<;>omega
  rw[zfQ]at this
  omega
 have h30:0<=sumI (zu g) (isW g c):=zdC fun x _=>zmE g c x
 have hK:=zeU g
 unfold zcV at *
 have e1:atF g c=0:=by unfold atF;rw[if_pos ha]
 have e2:zbl g c=0:=by unfold zbl;rw[if_neg (fun k=>k hs)]
 unfold pot zcV
 rw[e1,e2]
 generalize sumI (zu g) (isW g c)=w at *
 generalize hCe:((cellStarts g.pages).length:Int)=C at *
 have hov:zbx (C+2) c.over c.work.length<=5*(C+2):=by
  unfold zbx
  split
  ·exact Int.le_refl _
  ·exact Int.le_trans (Int.mul_le_mul_of_nonneg_left (show(c.work.length:Int)<=5 by omega) (by omega)) (Int.le_of_eq (Int.mul_comm _ _))
 have hmw:(C+2)*w<=(C+2)*C:=Int.mul_le_mul_of_nonneg_left (by omega) (by omega)
 have hsl' : (g.w.length:Int)=16*(g.pages.length:Int):=by omega
 obtain⟨m,hm2⟩:∃m:Int,m=8*(g.pages.length:Int):=⟨_,rfl⟩
 have hW:(g.w.length:Int)=2*m:=by omega
 have hCm:C<=m:=by omega
 have hsq:(g.w.length:Int)*(g.w.length:Int) / 4=m*m:=by
  rw[hW,show(2*m)*(2*m)=4*(m*m) by rw[Int.mul_assoc,Int.mul_left_comm m 2 m,←Int.mul_assoc];rfl]
  omega
 rw[hsq]
 have hCC:(C+2)*C<=m*m+2*m:=by
  have a1:(C+2)*C<=(m+2)*m:=Int.mul_le_mul (by omega) hCm (by omega) (by omega)
  have a2:(m+2)*m=m*m+2*m:=by rw[Int.add_mul]
  omega
 have hmm:8*m<=m*m:=Int.mul_le_mul_of_nonneg_right (by omega) (by omega)
 generalize (C+2)*w=A at *
 generalize (C+2)*C=B at *
 generalize m*m=Q at *
 omega
open Go.Proofs Go.Proofs.YtlankjlnnimdoaaGreatDoor
set_option maxRecDepth 8000
def zbW (g:Hp) (c:Col) (a:Int):Int:=if headE g a≠0\/((headH g a).old=true/\c.major=false) then 0 else if (headH g a).mark<c.epoch then 1 else if (headH g a).old=false/\(headH g a).born<c.epoch then 2 else 0
theorem zgF (g:Hp) (c:Col) (a:Int):zbW g c a=0\/(zbW g c a=1/\headE g a=0)\/(zbW g c a=2/\headE g a=0):=by
 unfold zbW
 split
 ·exact .inl rfl
 ·rename_i h
  have h:headE g a=0:=Classical.byContradiction fun k=>h (.inl k)
  split
  ·exact .inr (.inl ⟨rfl,h⟩)
  ·split
   ·exact .inr (.inr ⟨rfl,h⟩)
   ·exact .inl rfl
theorem zni {c d:Col} (h1:d.epoch=c.epoch) (h2:d.major=c.major) (g:Hp) (a:Int):zbW g d a=zbW g c a:=by unfold zbW;rw[h1,h2]
theorem znE (g:Hp) (c:Col) (a:Int) (hl:g.light):Spec X 248 [] [g.tv,c.tv,.int a] (Ret [] (.int (zbW g c a))):=by
 refine zGO X_ok Tryz.f248 fun hb hH=>⟨rfl,?_⟩
 show ACall ..
 refine za (zaJ g a hl) rfl ?_
 unfold zbW
 by_cases hE:headE g a=0
 ·show ABr (!decide (headE g a=0)) _ _
  rw[decide_eq_true hE]
  refine zNO (by decide) ?_
  by_cases h1:(headH g a).old=true/\c.major=false
  ·rw[if_pos (.inr h1)]
   show ABr (bif (headH g a).old then !c.major else false) _ _
   rw[h1.1,h1.2]
   refine zYE (by decide) ?_
   show ARet ..
   exact zi rfl ⟨rfl,rfl⟩
  ·rw[if_neg (fun k=>k.elim (fun k=>k hE) h1)]
   show ABr (bif (headH g a).old then !c.major else false) _ _
   rw[show(bif (headH g a).old then !c.major else false)=false by cases ho:(headH g a).old<;>cases hm:c.major<;>first|rfl|exact absurd ⟨ho,hm⟩ h1]
   refine zNO (by decide) ?_
   show ABr (decide ((headH g a).mark<c.epoch)) _ _
   by_cases h2:(headH g a).mark<c.epoch
   ·rw[if_pos h2,decide_eq_true h2]
    refine zYE (by decide) ?_
    show ARet ..
    exact zi rfl ⟨rfl,rfl⟩
   ·rw[if_neg h2,decide_eq_false h2]
    refine zNO (by decide) ?_
    show ABr (bif !(headH g a).old then decide ((headH g a).born<c.epoch) else false) _ _
    by_cases h3:(headH g a).old=false/\(headH g a).born<c.epoch
    ·rw[if_pos h3,h3.1,decide_eq_true h3.2]
     refine zYE (by decide) ?_
     show ARet ..
     exact zi rfl ⟨rfl,rfl⟩
    ·rw[if_neg h3,show(bif !(headH g a).old then decide ((headH g a).born<c.epoch) else false)=false by cases ho:(headH g a).old<;>first|rfl|exact decide_eq_false fun k=>h3 ⟨ho,k⟩]
     refine zNO (by decide) ?_
     show ARet ..
     exact zi rfl ⟨rfl,rfl⟩
 ·rw[if_pos (.inl hE)]
  show ABr (!decide (headE g a=0)) _ _
  rw[decide_eq_false hE]
  refine zYE (by decide) ?_
  show ABr (!decide (headE g a=0)) _ _
  rw[decide_eq_false hE]
  refine zYE (by decide) ?_
  show ARet ..
  exact zi rfl ⟨rfl,rfl⟩
def swV (g:Hp) (c:Col):List CV:=(g.enc++c.enc).map .d
theorem zrI (g:Hp) (c:Col) (hs:g.small) (hw:c.work.length<=zk):Spec X 215 [] [g.tv,c.tv] (Ret [(0,.vars (swV g c))] (.c (.ptr 0 0 0))):=by
 refine zGO X_ok Tryz.f215 fun hb hH=>⟨rfl,?_⟩
 obtain⟨h1,h2,h3,h4,h5,h6⟩:=hs
 show ADCall ..
 refine .mk _ _ (zd g.w h1) rfl ?_
 show ADCall ..
 refine .mk _ _ (zac g.pages h2) rfl ?_
 show ADCall ..
 refine .mk _ _ (zah g.cards h3) rfl ?_
 show ∃n,_
 refine⟨4,?_⟩
 show ALoop ..
 refine .next ?_
 refine zYE (by decide) ?_
 show AOb ..
 refine⟨by decide,?_⟩
 show ACall ..
 refine za (zd g.free.l0 h4) rfl ?_
 show AOb ..
 refine⟨by decide,?_⟩
 show ALoop ..
 refine .next ?_
 refine zYE (by decide) ?_
 show AOb ..
 refine⟨by decide,?_⟩
 show ACall ..
 refine za (zd g.free.l1 h5) rfl ?_
 show AOb ..
 refine⟨by decide,?_⟩
 show ALoop ..
 refine .next ?_
 refine zYE (by decide) ?_
 show AOb ..
 refine⟨by decide,?_⟩
 show ACall ..
 refine za (zd g.free.l2 h6) rfl ?_
 show AOb ..
 refine⟨by decide,?_⟩
 show ALoop ..
 refine .next ?_
 refine zNO (by decide) ?_
 show ACall ..
 refine za (zd c.work hw) rfl ?_
 show ARet ..
 exact⟨[(_,0)],[(0,.vars (swV g c))],[.c (.ptr 0 0 0)],.cons _ _ _ _ (.c _ _ (.ptr1 _ _ _ _)) .nil,.old 0 _ _ _ _ rfl rfl (.vars _ _ (zb rfl)) .nil,rfl,rfl,rfl⟩
theorem zp0 (g:Hp) (c:Col) (a:Int) (hl:g.light) (hs:g.small):Spec X 249 [(16,.vars (swV g c))] [.c (.ptr 16 0 0),.int a] (fun H r=>H=[(16,.vars (swV (zdU g a) c))]/\r = .tup []):=by
 refine zGO X_ok Tryz.f249 fun hb hH=>⟨rfl,?_⟩
 show ACall ..
 refine za (zuw g a hl hs) rfl ?_
 show ARet ..
 exact⟨[(16,16)],[(16,.vars (swV (zdU g a) c))],[],.nil,.old 16 16 _ _ _ rfl rfl (.vars _ _ (zb rfl)) .nil,rfl,rfl,rfl⟩
theorem zpd (g:Hp) (c:Col) (a:Int) (hl:g.light) (ha:a<9223372036854775808):Spec X 250 [(16,.vars (swV g c))] [.c (.ptr 16 0 0),.int a] (fun H r=>H=[(16,.vars (swV (zaY g a) {c with met:=true}))]/\r = .tup []):=by
 refine zGO X_ok Tryz.f250 fun hb hH=>⟨rfl,?_⟩
 show ACall ..
 refine za (zip g a hl ha) rfl ?_
 show ARet ..
 exact⟨[(16,16)],[(16,.vars (swV (zaY g a) {c with met:=true}))],[],.nil,.old 16 16 _ _ _ rfl rfl (.vars _ _ (zb rfl)) .nil,rfl,rfl,rfl⟩
theorem zsw (g:Hp) (c:Col):Spec X 218 [(16,.vars (swV g c))] [.c (.ptr 16 0 0)] (fun H r=>H=[(16,.vars (swV g ⟨0,c.epoch,c.major,[],false,0,0,0,0,false⟩))]/\r = .tup []):=by
 refine zGO X_ok Tryz.f218 fun hb hH=>⟨rfl,?_⟩
 show ARet ..
 exact⟨[(16,16)],[(16,.vars (swV g ⟨0,c.epoch,c.major,[],false,0,0,0,0,false⟩))],[],.nil,.old 16 16 _ _ _ rfl rfl (.vars _ _ (.cons _ _ _ _ (.d _) (.cons _ _ _ _ (.d _) (.cons _ _ _ _ (.d _) (.cons _ _ _ _ (.d _) (.cons _ _ _ _ (.d _) (.cons _ _ _ _ (.d _) (.cons _ _ _ _ (.d _) (.cons _ _ _ _ (.d _) (.cons _ _ _ _ (.d _) (.cons _ _ _ _ (.nilsl .int) (.cons _ _ _ _ (.d _) (.cons _ _ _ _ (.d _) (.cons _ _ _ _ (.d _) (.cons _ _ _ _ (.d _) (.cons _ _ _ _ (.d _) (.cons _ _ _ _ (.d _) .nil))))))))))))))))) .nil,rfl,rfl,rfl⟩
def zyh (g:Hp) (c:Col):Hp:=if zbW g c c.seek=2 then zgx g c.seek {headH g c.seek with old:=true} else g
theorem zs0 (g:Hp) (c:Col) (hl:g.light):Spec X 216 [(16,.vars (swV g c))] [.c (.ptr 16 0 0),.int c.seek] (fun H r=>H=[(16,.vars (swV (zyh g c) {c with met:=false}))]/\r = .tup []):=by
 refine zGO X_ok Tryz.f216 fun hb hH=>⟨rfl,?_⟩
 show ADCall ..
 refine .mk _ _ (znE g {c with met:=false} c.seek hl) rfl ?_
 rw[zni (c:=c) (d:={c with met:=false}) rfl rfl]
 unfold zyh
 by_cases h:zbW g c c.seek=2
 ·rw[if_pos h]
  show ABr (!decide (zbW g c c.seek=2)) _ _
  rw[decide_eq_true h]
  refine zNO (by decide) ?_
  show ACall ..
  refine za (zaJ g c.seek hl) rfl ?_
  show ADCall ..
  refine .mk _ _ (zjZ g c.seek {headH g c.seek with old:=true} hl) rfl ?_
  show ARet ..
  exact⟨[(16,16)],[(16,.vars (swV (zgx g c.seek {headH g c.seek with old:=true}) {c with met:=false}))],[],.nil,.old 16 16 _ _ _ rfl rfl (.vars _ _ (zb rfl)) .nil,rfl,rfl,rfl⟩
 ·rw[if_neg h]
  show ABr (!decide (zbW g c c.seek=2)) _ _
  rw[decide_eq_false h]
  refine zYE (by decide) ?_
  show ARet ..
  exact⟨[(16,16)],[(16,.vars (swV g {c with met:=false}))],[],.nil,.old 16 16 _ _ _ rfl rfl (.vars _ _ (zb rfl)) .nil,rfl,rfl,rfl⟩
def zpJ (g:Hp) (c:Col) (a:Int):Hp×Col:=if zbW g c a=1 then (zdU g a,{c with seek:=a}) else if zbW g c a=2 then (zaY g a,{c with seek:=a,met:=true}) else (g,{c with seek:=a})
set_option maxRecDepth 60000 in
set_option maxHeartbeats 2000000 in
theorem zq2 (g:Hp) (c:Col) (a:Int) (hl:g.light) (hs:g.small) (ha:a<9223372036854775808):Spec X 217 [(16,.vars (swV g c))] [.c (.ptr 16 0 0),.int a] (fun H r=>H=[(16,.vars (swV (zpJ g c a).1 (zpJ g c a).2))]/\r = .tup []):=by
 refine zGO X_ok Tryz.f217 fun hb hH=>⟨rfl,?_⟩
 have fs:=znE g {c with seek:=a} a hl
 rw[zni (c:=c) (d:={c with seek:=a}) rfl rfl]at fs
 unfold zpJ
 rcases zgF g c a with h|⟨h,_⟩|⟨h,_⟩
 ·rw[h]at fs ⊢
  show ADCall ..
  refine .mk _ _ (fs) rfl ?_
  refine zNO (by decide) ?_
  show ARet ..
  exact⟨[(16,16)],[(16,.vars (swV g {c with seek:=a}))],[],.nil,.old 16 16 _ _ _ rfl rfl (.vars _ _ (zb rfl)) .nil,rfl,rfl,rfl⟩
 ·rw[h]at fs ⊢
  show ADCall ..
  refine .mk _ _ (fs) rfl ?_
  refine zYE (by decide) ?_
  show ACall ..
  refine .hand [(16,16)] [(16,.vars (swV g {c with seek:=a}))] [.c (.ptr 16 0 0),.int a] _ (.cons _ _ _ _ (.c _ _ (.ptr _ _ _ _ rfl)) (.cons _ _ _ _ .same .nil)) (.old 16 16 _ _ _ rfl rfl (.vars _ _ (zb rfl)) .nil) rfl (zp0 g {c with seek:=a} a hl hs) ?_
  rintro H r ⟨rfl,rfl⟩ _ _
  refine⟨rfl,.inl rfl,?_⟩
  show ARet ..
  exact⟨[(16,16)],[(16,.vars (swV (zdU g a) {c with seek:=a}))],[],.nil,.old 16 16 _ _ _ rfl rfl (.vars _ _ (zb rfl)) .nil,rfl,rfl,rfl⟩
 ·rw[h]at fs ⊢
  show ADCall ..
  refine .mk _ _ (fs) rfl ?_
  refine zYE (by decide) ?_
  show ACall ..
  refine .hand [(16,16)] [(16,.vars (swV g {c with seek:=a}))] [.c (.ptr 16 0 0),.int a] _ (.cons _ _ _ _ (.c _ _ (.ptr _ _ _ _ rfl)) (.cons _ _ _ _ .same .nil)) (.old 16 16 _ _ _ rfl rfl (.vars _ _ (zb rfl)) .nil) rfl (zpd g {c with seek:=a} a hl ha) ?_
  rintro H r ⟨rfl,rfl⟩ _ _
  refine⟨rfl,.inl rfl,?_⟩
  show ARet ..
  exact⟨[(16,16)],[(16,.vars (swV (zaY g a) {c with seek:=a,met:=true}))],[],.nil,.old 16 16 _ _ _ rfl rfl (.vars _ _ (zb rfl)) .nil,rfl,rfl,rfl⟩
def ze8 (g : Hp) (c : Col) : Hp × Col :=
  if zx g [] = true /\ c.phase = 6 then
    (if c.met = true then (zyh g c, { c with met := false })
     else if zks g.pages c.seek = true then zpJ g c (zM g.pages c.seek)
     else (g, ⟨0, c.epoch, c.major, [], false, 0, 0, 0, 0, false⟩))
  else (g, c)
theorem zyi {l:List Page} {a:Int}:zM l a<9223372036854775808:=by
 unfold zM
 cases h:(cellStarts l).find? fun s=>decide (a<s) with
 |none=>show(0:Int)<_;omega
 |some x=>
  have hx:=List.mem_of_find?_eq_some h
  obtain⟨hm,j,hj⟩:=zap (zz (zw.1 hx))
  have h1:x<16*((j:Int)+2):=hj.hi
  have h2:=hj.lt
  have h3:=(zab hm).2.2
  show x<_
  omega
set_option maxRecDepth 60000 in
set_option maxHeartbeats 2000000 in
theorem zkr (g:Hp) (c:Col) (hl:g.light) (hs:g.small) (hk:c.work.length<=zk):Spec X 164 [] [g.tv,c.tv] (Ret [] (.tup [(ze8 g c).1.tv,(ze8 g c).2.tv])):=by
 refine zGO X_ok Tryz.f164 fun hb hH=>⟨rfl,?_⟩
 show ACall ..
 refine .mk _ (zrI g c hs hk) fun H r ⟨eH,er⟩ _ _=>⟨.inl rfl,?_⟩
 subst eH er
 show ACall ..
 refine za (zmS g.pages c.seek) rfl ?_
 show ACall ..
 refine za (zbQ g hl) rfl ?_
 unfold ze8
 by_cases hm:zx g []=true
 ·show ABr (!zx g []) _ _
  rw[hm]
  refine zNO (by decide) ?_
  show ABr (!decide (c.phase=6)) _ _
  by_cases hp:c.phase=6
  ·rw[if_pos ⟨rfl,hp⟩,decide_eq_true hp]
   refine zNO (by decide) ?_
   show ABr c.met _ _
   refine⟨fun hmet=>?_,fun hmet=>?_⟩
   ·rw[if_pos hmet]
    show ACall ..
    refine .hand [(224,16)] [(16,.vars (swV g c))] [.c (.ptr 16 0 0),.int c.seek] _ (.cons _ _ _ _ (.c _ _ (.ptr _ _ _ _ rfl)) (.cons _ _ _ _ .same .nil)) (.old 16 224 _ _ _ rfl rfl (.vars _ _ (zb rfl)) .nil) rfl (zs0 g c hl) ?_
    rintro H r ⟨rfl,rfl⟩ _ _
    refine⟨rfl,.inl rfl,?_⟩
    show ARet ..
    exact zi rfl ⟨rfl,rfl⟩
   ·rw[if_neg (by rw[hmet];decide)]
    show ABr (zks g.pages c.seek) _ _
    cases hn:zks g.pages c.seek with
    |true=>
     rw[if_pos rfl]
     refine zYE (by decide) ?_
     show ACall ..
     refine .hand [(224,16)] [(16,.vars (swV g c))] [.c (.ptr 16 0 0),.int (zM g.pages c.seek)] _ (.cons _ _ _ _ (.c _ _ (.ptr _ _ _ _ rfl)) (.cons _ _ _ _ .same .nil)) (.old 16 224 _ _ _ rfl rfl (.vars _ _ (zb rfl)) .nil) rfl (zq2 g c (zM g.pages c.seek) hl hs zyi) ?_
     rintro H r ⟨rfl,rfl⟩ _ _
     refine⟨rfl,.inl rfl,?_⟩
     show ARet ..
     exact zi rfl ⟨rfl,rfl⟩
    |false=>
     rw[if_neg (by decide)]
     refine zNO (by decide) ?_
     show ACall ..
     refine .hand [(224,16)] [(16,.vars (swV g c))] [.c (.ptr 16 0 0)] _ (.cons _ _ _ _ (.c _ _ (.ptr _ _ _ _ rfl)) .nil) (.old 16 224 _ _ _ rfl rfl (.vars _ _ (zb rfl)) .nil) rfl (zsw g c) ?_
     rintro H r ⟨rfl,rfl⟩ _ _
     refine⟨rfl,.inl rfl,?_⟩
     show ARet ..
     exact zi rfl ⟨rfl,rfl⟩
  ·rw[if_neg (fun k=>hp k.2),decide_eq_false hp]
   refine zYE (by decide) ?_
   show ARet ..
   exact zi rfl ⟨rfl,rfl⟩
 ·show ABr (!zx g []) _ _
  rw[if_neg (fun k=>hm k.1),show zx g []=false by simpa using hm]
  refine zYE (by decide) ?_
  show ABr (!false) _ _
  refine zYE (by decide) ?_
  show ARet ..
  exact zi rfl ⟨rfl,rfl⟩
end Go.Abs
namespace Go.Abs
set_option maxRecDepth 8000
abbrev zlV (g:Hp) (a:Int):Hd:={headH g a with old:=true}
theorem zyT {g:Hp} {a:Int} (h:headE g a=0):PutOk g a (zlV g a)/\zgx g a (zlV g a)=zcc g a (zlV g a).word:=by
 have hu:=(zaj h).1
 obtain⟨p,s⟩:=zmf (x:=zlV g a) h (by have:=(zgt h).1;unfold Hd.May at this ⊢;rw[if_pos hu]at this;rw[if_pos hu];exact this) hu rfl
 exact⟨p,ziV s⟩
inductive SwStep (g:Hp) (c:Col):Hp->Col->Prop
 |idle (h:¬(zx g []=true/\c.phase=6)):SwStep g c g c
 |old (hm:zx g []=true) (hp:c.phase=6) (hmet:c.met=true) (hf:zbW g c c.seek=2) (h0:headE g c.seek=0) (h:PutOk g c.seek (zlV g c.seek)):SwStep g c (zcc g c.seek (zlV g c.seek).word) {c with met:=false}
 |pass (hm:zx g []=true) (hp:c.phase=6) (hmet:c.met=true) (hf:zbW g c c.seek≠2):SwStep g c g {c with met:=false}
 |free (hm:zx g []=true) (hp:c.phase=6) (hmet:c.met=false) (hn:zM g.pages c.seek∈cellStarts g.pages) (hl:c.seek<zM g.pages c.seek) (hq:∀u∈cellStarts g.pages,c.seek<u->zM g.pages c.seek<=u) (hf:zbW g c (zM g.pages c.seek)=1) (h0:headE g (zM g.pages c.seek)=0):SwStep g c (zdU g (zM g.pages c.seek)) {c with seek:=zM g.pages c.seek}
 |dirty (hm:zx g []=true) (hp:c.phase=6) (hmet:c.met=false) (hn:zM g.pages c.seek∈cellStarts g.pages) (hl:c.seek<zM g.pages c.seek) (hq:∀u∈cellStarts g.pages,c.seek<u->zM g.pages c.seek<=u) (hf:zbW g c (zM g.pages c.seek)=2) (h0:headE g (zM g.pages c.seek)=0) (hc:zbb g (zM g.pages c.seek)=0):SwStep g c (zcO g (zbM g (zM g.pages c.seek)) true) {c with seek:=zM g.pages c.seek,met:=true}
 |stay (hm:zx g []=true) (hp:c.phase=6) (hmet:c.met=false) (hn:zM g.pages c.seek∈cellStarts g.pages) (hl:c.seek<zM g.pages c.seek) (hq:∀u∈cellStarts g.pages,c.seek<u->zM g.pages c.seek<=u) (hf:zbW g c (zM g.pages c.seek)=0):SwStep g c g {c with seek:=zM g.pages c.seek}
 |done (hm:zx g []=true) (hp:c.phase=6) (hmet:c.met=false) (hn:∀u∈cellStarts g.pages,u<=c.seek):SwStep g c g ⟨0,c.epoch,c.major,[],false,0,0,0,0,false⟩
theorem zpD (l:List Page) (a:Int):(zks l a=false/\∀u∈cellStarts l,u<=a)\/(zks l a=true/\a<zM l a/\zM l a∈cellStarts l/\∀u∈cellStarts l,a<u->zM l a<=u):=by
 unfold zks
 cases h:(cellStarts l).find? fun s=>decide (a<s) with
 |none=>
  refine .inl ⟨rfl,fun u hu=>?_⟩
  have:=List.find?_eq_none.1 h u hu
  simpa using this
 |some x=>
  refine .inr ⟨rfl,?_⟩
  have hx:=List.find?_some h
  have hm:=List.mem_of_find?_eq_some h
  have hx:a<x:=of_decide_eq_true hx
  rcases zkE l a with⟨_,h2⟩|h2
  ·have:=h2 x hm;omega
  ·exact h2
theorem zsn (g:Hp) (c:Col):SwStep g c (ze8 g c).1 (ze8 g c).2:=by
 unfold ze8
 by_cases hm:zx g []=true/\c.phase=6
 ·rw[if_pos hm]
  obtain⟨hm,hp⟩:=hm
  cases hmet:c.met with
  |true=>
   rw[if_pos rfl]
   unfold zyh
   by_cases hf:zbW g c c.seek=2
   ·rw[if_pos hf]
    have h0:headE g c.seek=0:=by
     rcases zgF g c c.seek with h|⟨h,_⟩|⟨_,h⟩
     ·omega
     ·omega
     ·exact h
    obtain⟨p,e⟩:=zyT h0
    show SwStep g c (zgx g c.seek (zlV g c.seek)) _
    rw[e]
    exact .old hm hp hmet hf h0 p
   ·rw[if_neg hf]
    exact .pass hm hp hmet hf
  |false=>
   rw[if_neg (by decide)]
   rcases zpD g.pages c.seek with⟨h1,h2⟩|⟨h1,h2,h3,h4⟩
   ·rw[h1,if_neg (by decide)]
    exact .done hm hp hmet h2
   ·rw[h1,if_pos rfl]
    unfold zpJ
    rcases zgF g c (zM g.pages c.seek) with h|⟨h,h0⟩|⟨h,h0⟩
    ·rw[if_neg (by omega),if_neg (by omega)]
     exact .stay hm hp hmet h3 h2 h4 h
    ·rw[if_pos h]
     exact .free hm hp hmet h3 h2 h4 h h0
    ·rw[if_neg (by omega),if_pos h]
     have hc:zbb g (zM g.pages c.seek)=0:=by
      obtain⟨z1,z2,z3,z4⟩:=za4 h0
      exact zfw hm ⟨z2,by omega⟩
     show SwStep g c (zaY g (zM g.pages c.seek)) _
     rw[zlF hc]
     exact .dirty hm hp hmet h3 h2 h4 h h0 hc
 ·rw[if_neg hm]
  exact .idle hm
theorem SwStep.work {g k:Hp} {c d:Col} (s:SwStep g c k d):d.work=c.work\/d.work=[]:=by
 cases s<;>first|exact .inl rfl|exact .inr rfl
theorem SwStep.col {g k:Hp} {c d:Col} (s:SwStep g c k d):d.epoch=c.epoch/\d.major=c.major:=by
 cases s<;>exact⟨rfl,rfl⟩
open Go.Proofs Go.Proofs.YtlankjlnnimdoaaGreatDoor
theorem Freed.head {g k:Hp} {a:Int} {cs:List Lists} (f:Freed g k a cs) (u:Int):(headE k u=0↔headE g u=0/\u≠a)/\(headE k u=0->headH k u=headH g u):=by
 have h1:headE k u=0↔headE g u=0/\u≠a:=by
  rw[←zaa,←zaa,f.used,List.mem_filter,decide_eq_true_eq]
 refine⟨h1,fun h=>?_⟩
 obtain⟨h2,h3⟩:=h1.1 h
 have hr:=(zU h2).2.1
 have hp:=(zaj h2).2
 have:=f.word u h3 hr 0 (Int.le_refl _) (by omega)
 rw[Int.add_zero]at this
 rw[zaA h,zaA h2,this]
end Go.Abs
namespace Go.Abs
set_option maxRecDepth 8000
def zc6 (k:Hp) (a:Int):Nat:=((cellStarts k.pages).filter fun s=>decide (a<s)).length
def zjm (k:Hp) (d:Col):Nat:=2*zc6 k d.seek+(if d.met=true then 1 else 0)+1
theorem zgX {k:Hp} {a n:Int} (hn:n∈cellStarts k.pages) (hl:a<n) {S:List Int} (hs:S.Sublist (cellStarts k.pages)):(S.filter fun s=>decide (n<s)).length+1<=zc6 k a:=by
 unfold zc6
 have h1:(S.filter fun s=>decide (n<s)).length<=((cellStarts k.pages).filter fun s=>decide (n<s)).length:=(hs.filter _).length_le
 have h2:((cellStarts k.pages).filter fun s=>decide (n<s)).length+1<=((cellStarts k.pages).filter fun s=>decide (a<s)).length:=by
  have hsub:(((cellStarts k.pages).filter fun s=>decide (n<s)).length)+((cellStarts k.pages).filter fun s=>decide (s=n)).length<=((cellStarts k.pages).filter fun s=>decide (a<s)).length:=by
   generalize cellStarts k.pages=L
   induction L with
   |nil=>simp
   |cons x r ih=>
    simp only[List.filter_cons]
    by_cases c1:n<x
    ·rw[decide_eq_true c1,decide_eq_false (show ¬x=n by omega),decide_eq_true (show a<x by omega)]
     simp only[if_true,List.length_cons]
     simp only[Bool.false_eq_true,if_false]
     omega
    ·by_cases c2:x=n
     ·rw[decide_eq_false c1,decide_eq_true c2,decide_eq_true (show a<x by omega)]
      simp only[if_true,List.length_cons]
      simp only[Bool.false_eq_true,if_false]
      omega
     ·rw[decide_eq_false c1,decide_eq_false c2]
      simp only[Bool.false_eq_true,if_false]
      split
      ·rw[List.length_cons];omega
      ·omega
  have:0<((cellStarts k.pages).filter fun s=>decide (s=n)).length:=List.length_pos_of_mem (List.mem_filter.2 ⟨hn,decide_eq_true rfl⟩)
  omega
 omega
end Go.Abs
