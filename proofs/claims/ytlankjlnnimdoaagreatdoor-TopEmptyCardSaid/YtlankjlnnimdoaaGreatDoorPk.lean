/- Walks and plain laws: WEmptyG, WTopU, WTopV. -/
import Derived.Test.YtlankjlnnimdoaaGreatDoorPj
import Derived.Test.YtlankjlnnimdoaaGreatDoorPe
set_option linter.all false
namespace Go.Abs
set_option maxRecDepth 8000
theorem znF:∀(l:List Page),pgo 0 l=true->(∀p∈l,p.kind≠1/\p.kind≠2)->∀p∈l,p=⟨0,0⟩
 |[],_,_=>fun p hp=>by cases hp
 |q::l,h,hk=>by
  obtain⟨k1,k2⟩:=hk q (List.mem_cons_self ..)
  have h:(bif decide (q.kind=3) then !decide ((0:Int)=0)&&decide (q.arg=0)&&pgo (0-1) l else zag q&&!decide ((0:Int)>0)&&pgo (if q.kind=2 then q.arg-1 else 0) l)=true:=h
  by_cases h3:q.kind=3
  ·rw[decide_eq_true h3]at h
   exact absurd h (by simp)
  ·rw[decide_eq_false h3,cond_false,Bool.and_eq_true,Bool.and_eq_true,if_neg k2]at h
   obtain⟨⟨h4,_⟩,h5⟩:=h
   have hq:q=⟨0,0⟩:=by
    obtain⟨kd,ar⟩:=q
    rcases (of_decide_eq_true h4:_\/_) with⟨a,b⟩|⟨a,_⟩|⟨a,_⟩
    ·have a:kd=0:=a
     have b:ar=0:=b
     rw[a,b]
    ·exact absurd a k1
    ·exact absurd a k2
   intro p hp
   rcases List.mem_cons.1 hp with rfl|hp
   ·exact hq
   ·exact znF l h5 (fun p hp=>hk p (List.mem_cons_of_mem _ hp)) p hp
theorem zr9 {n:Int} {B:Nat} {w:Wd} (hn:pgN n=true) (hm:zQ w=true) (hd:zcZ w) (he:EmW (n*16).toNat B w) (hu:∀u,headE w.h u≠0):{newH n with cards:=w.h.cards}=w.h:=by
 obtain⟨h1,h2,h3,h4⟩:=zP.1 hm
 have hmay:=zW h4
 have hm0:=zbI h4
 obtain⟨s1,hmp,s3,s4,s5,s6⟩:=zl (zA hmay)
 have hw0:∀u,ze w.h.pages u≠0->zf w.h u=0:=fun u hr=>by
  apply Classical.byContradiction
  intro q
  have:=zbz hm0 u
  rw[if_pos ⟨hr,q⟩]at this
  exact hu u this
 have hfl:∀x∈zn (w.h.free::zT w),x∈w.h.free.flat:=fun x hx=>by
  obtain⟨l,hl,hx⟩:=zcM.1 hx
  rcases List.mem_cons.1 hl with rfl|hl
  ·exact hx
  ·obtain⟨t,ht,rfl⟩:=List.mem_map.1 hl
   rw[he.d t ht (hd t ht)]at hx
   cases hx
 have hkn:∀u∈cellStarts w.h.pages,u∈w.h.free.flat:=fun u hc=>by
  rcases zcL h4 hc with q|q
  ·exact absurd (hw0 u (zw.1 hc)) q
  ·exact hfl u q
 have hkind:∀i,i<w.h.pages.length->(w.h.pages.getD i default).kind≠1/\(w.h.pages.getD i default).kind≠2:=fun i hi=>by
  constructor
  ·intro k
   obtain⟨s,a,b⟩:=he.z.n i hi k
   exact b (hkn s (zw.2 (zgJ hmp hi a)))
  ·intro k
   have hx:(16*((i:Int)+1),(w.h.pages.getD i default).arg*16)∈zD (w.h.pages.getD i default) (16*((i:Int)+1)):=by
    unfold zD
    rw[if_pos k]
    exact List.mem_singleton.2 rfl
   have hc:16*((i:Int)+1)∈cellStarts w.h.pages:=List.mem_map.2 ⟨_,(zhg hmp).2 ⟨i,hi,hx⟩,rfl⟩
   obtain⟨d,d0,d2,hx⟩:=zbq.1 (hkn _ hc)
   have hp:=(zfL hmay (List.mem_cons_self ..) ⟨d0,d2⟩ hx).2.1
   unfold zO at hp
   rw[show(16*((i:Int)+1) / 16-1).toNat=i by omega]at hp
   rw[hp]at k
   exact absurd k (by show ¬(1:Int)=2;decide)
 have hpg:∀p∈w.h.pages,p=⟨0,0⟩:=by
  have hgo:pgo 0 w.h.pages=true:=by unfold zar at hmp;rw[Bool.and_eq_true]at hmp;exact hmp.1
  refine znF _ hgo fun p hp=>?_
  obtain⟨i,hi,e⟩:=List.mem_iff_getElem.1 hp
  have:=hkind i hi
  rw[List.getD_eq_getElem?_getD,List.getElem?_eq_getElem hi]at this
  rw[←e]
  exact this
 have hfree:∀d,0<=d->d<=2->w.h.free.at_ d=[]:=fun d d0 d2=>by
  apply List.eq_nil_iff_forall_not_mem.2
  intro x hx
  have hp:=(zfL hmay (List.mem_cons_self ..) ⟨d0,d2⟩ hx).2.1
  have hz:(zO w.h x).kind=0:=by
   unfold zO
   rw[List.getD_eq_getElem?_getD]
   cases hq:w.h.pages[(x / 16-1).toNat]? with
   |none=>rfl
   |some p=>rw[hpg p (List.mem_of_getElem? hq)];rfl
  rw[hp]at hz
  exact absurd hz (by show ¬(1:Int)=0;decide)
 have hwz:∀x∈w.h.w,x=0:=fun x hx=>by
  obtain⟨i,hi,e⟩:=List.mem_iff_getElem.1 hx
  apply Classical.byContradiction
  intro q
  have hw:zf w.h (16+(i:Int))=x:=by
   unfold zf
   rw[show(16+(i:Int)-16).toNat=i by omega,zcT hi,e]
  obtain⟨a,a1,_⟩:=he.z.z (16+(i:Int)) (by omega) (by rw[hw];exact q)
  exact hu a a1
 obtain⟨n1,n2⟩:=of_decide_eq_true hn
 have hL:=he.z.l
 have e1:newH n=⟨zer (n*16).toNat,List.replicate n.toNat ⟨0,0⟩,⟨[],[],[]⟩,List.replicate (2*n).toNat false⟩:=by
  unfold newH;rw[hn];rfl
 rw[e1]
 have ew:w.h.w=zer (n*16).toNat:=List.eq_replicate_iff.2 ⟨hL,hwz⟩
 have ep:w.h.pages=List.replicate n.toNat ⟨0,0⟩:=List.eq_replicate_iff.2 ⟨by omega,hpg⟩
 have f0:w.h.free.l0=[]:=hfree 0 (by decide) (by decide)
 have f1:w.h.free.l1=[]:=hfree 1 (by decide) (by decide)
 have f2:w.h.free.l2=[]:=hfree 2 (by decide) (by decide)
 obtain⟨⟨W,P,⟨l0,l1,l2⟩,C⟩,c,ts,lg⟩:=w
 have ew:W=_:=ew
 have ep:P=_:=ep
 have f0:l0=[]:=f0
 have f1:l1=[]:=f1
 have f2:l2=[]:=f2
 rw[ew,ep,f0,f1,f2]
def zcU (w:Wd):Wd:=roundsW (za6 (drainW 350 (zav w))) (drainW 350 (zav w))
def zk0 (w:Wd):Wd:=roundsW (za6 (zcU w)) (zal (zcU w) true)
structure EmptyOk (n:Int) (w:Wd):Prop where
 ops:∀t∈w.t,t.ops.length<=190
 may:zQ (zav w)=true
 w1:zQ (drainW 350 (zav w))=true/\(drainW 350 (zav w)).log.length<=10000/\(drainW 350 (zav w)).h.w.length<=64
 w2:zQ (zcU w)=true/\(zcU w).log.length<=30000/\(zcU w).h.w.length<=64
 w3:zQ (zk0 w)=true
 log:(zav w).log.length<=8000
 dead:∀t∈(zk0 w).t,t.live=false
 used:zu (zk0 w).h=[]
 same:{newH n with cards:=(zk0 w).h.cards}=(zk0 w).h
theorem EmW.made {n:Int} {l:List (List Op)} {B:Nat} (h:zca n l=0) (hB:∀o∈l,o.length<=B):EmW (n*16).toNat B (madeW n l):=by
 obtain⟨h1,h2,h3,e⟩:=zjq h
 rw[e]
 have e1:newH n=⟨zer (n*16).toNat,List.replicate n.toNat ⟨0,0⟩,⟨[],[],[]⟩,List.replicate (2*n).toNat false⟩:=by
  unfold newH;rw[h1];rfl
 refine⟨⟨fun u _ hw=>?_,fun i hi hk=>?_,?_⟩,fun t ht _=>?_,fun t ht=>?_,Int.le_refl _,Int.le_refl _⟩
 ·exfalso
  apply hw
  show zf (newH n) u=0
  rw[e1]
  show at0 (List.replicate (n*16).toNat 0) (u-16).toNat=0
  unfold at0
  rw[List.getD_eq_getElem?_getD,List.getElem?_replicate]
  split<;>rfl
 ·exfalso
  have hk:((newH n).pages.getD i default).kind=1:=hk
  rw[e1]at hk
  have hk:((List.replicate n.toNat (⟨0,0⟩:Page)).getD i default).kind=1:=hk
  rw[List.getD_eq_getElem?_getD,List.getElem?_replicate]at hk
  split at hk
  ·exact absurd hk (by show ¬(0:Int)=1;decide)
  ·exact absurd hk (by decide)
 ·show(newH n).w.length=_
  rw[e1]
  exact List.length_replicate
 ·obtain⟨o,_,rfl⟩:=List.mem_map.1 ht
  rfl
 ·obtain⟨o,ho,rfl⟩:=List.mem_map.1 ht
  exact hB o ho
theorem zyt (w:Wd) (e:Pair):(doW w e).c.epoch<=w.c.epoch+1/\(e.fst=0->(doW w e).c.epoch=w.c.epoch):=by
 have hstart:∀m,(startW w m).c.epoch<=w.c.epoch+1:=fun m=>by
  unfold startW
  split
  ·rename_i he
   show(zbS w.c m).epoch<=_
   unfold zbS
   rw[if_pos he]
   exact Int.le_refl _
  ·omega
 have hstep:(stepW w e.snd).c.epoch=w.c.epoch:=by
  unfold stepW
  split
  ·rfl
  ·split
   ·rfl
   ·split
    ·exact(zmM w.h w.c (thW w e.snd)).epoch
    ·exact(ztB w.h w.c (thW w e.snd)).c.epoch
 unfold doW
 split
 ·unfold doW1
  split
  ·rename_i h0
   exact⟨by rw[hstep];omega,fun _=>hstep⟩
  ·rename_i h0
   refine⟨?_,fun k=>absurd k h0⟩
   split
   ·show(zbN w.h w.c w.t).2.epoch<=_
    rw[(zc1 w.h w.c w.t).col.1];omega
   ·split
    ·exact hstart _
    ·split
     ·exact hstart _
     ·split
      ·unfold beginW
       split
       ·omega
       ·split
        ·omega
        ·show w.c.epoch<=_;omega
      ·omega
 ·exact⟨by omega,fun _=>rfl⟩
theorem zy7 (w:Wd) (l:List Pair):(runW w l).c.epoch<=w.c.epoch+l.length:=by
 unfold runW
 induction l generalizing w with
 |nil=>simp
 |cons e r ih=>
  have h1:=ih (doW w e)
  have h2:=(zyt w e).1
  rw[List.foldl_cons,List.length_cons]
  omega
theorem EpW.roundsW:∀ {w:Wd} (k:Nat),EpW w->EpW (roundsW k w)
 |w,0,h=>h
 |w,k+1,h=>by
  have hs:∀j,EpW (zJ w j):=fun j=>by
   induction j with
   |zero=>exact h
   |succ j ih=>exact ih.do_ _
  show EpW (if w.c.phase≠0 then Abs.roundsW k (zbc w) else w)
  split
  ·exact EpW.roundsW k ((hs _).do_ _)
  ·exact h
theorem zhh (t:Thread):(zc2 t).live=t.live/\(zc2 t).cache=t.cache/\(zc2 t).epoch=t.epoch/\(zc2 t).ops.length<=t.ops.length+1/\(zc2 t).stage=t.stage/\(zc2 t).root=t.root/\(zc2 t).pc=t.pc/\t.ops.length<=(zc2 t).ops.length/\LX (zc2 t):=by
 unfold zc2
 split
 ·exact⟨rfl,rfl,rfl,by simp,rfl,rfl,rfl,by simp,fun _=>⟨t.ops,rfl⟩⟩
 ·rename_i h
  exact⟨rfl,rfl,rfl,by omega,rfl,rfl,rfl,Nat.le_refl _,fun k=>absurd k h⟩
theorem zwM {n:Int} {l:List (List Op)} {e:List Pair} (hL:l.length<=4/\e.length<=120/\∀o∈l,o.length<=60) (hn:n<=4) (h0:zca n l=0):EmptyOk n (runW (madeW n l) e):=by
 obtain⟨hl,hel,h60⟩:=hL
 obtain⟨g1,g2,g3,ge⟩:=zjq h0
 obtain⟨n1,_⟩:=of_decide_eq_true g1
 obtain⟨mm,ml⟩:=zmI h0
 have hEm:EmW (n*16).toNat 60 (runW (madeW n l) e):=(EmW.made h0 h60).run e
 have hEp:EpW (runW (madeW n l) e):=(EpW.made h0).run e
 have hMay:=zpa mm e
 have hLog:=ztA (madeW n l) e
 rw[ml]at hLog
 have hEpo:=zy7 (madeW n l) e
 have hz:(madeW n l).c.epoch=0:=by rw[ge];rfl
 rw[hz]at hEpo
 generalize runW (madeW n l) e=W at *
 obtain⟨a1,a2,a3,a4⟩:=zP.1 hMay
 have xEm:EmW (n*16).toNat 61 (zav W):=by
  refine⟨hEm.z,fun t ht hd=>?_,fun t ht=>?_,hEm.k⟩
  ·obtain⟨s,hs,rfl⟩:=List.mem_map.1 ht
   obtain⟨q1,q2,_⟩:=zhh s
   rw[q2];exact hEm.d s hs (by rw[←q1];exact hd)
  ·obtain⟨s,hs,rfl⟩:=List.mem_map.1 ht
   have:=(zhh s).2.2.2.1
   have:=hEm.o s hs
   omega
 have xEp:EpW (zav W):=⟨hEp.h,fun t ht=>by
  obtain⟨s,hs,rfl⟩:=List.mem_map.1 ht
  rw[(zhh s).2.2.1];exact hEp.t s hs⟩
 have xMay:zQ (zav W)=true:=by
  refine zP.2 ⟨by show(W.t.map zc2).length<=4;rw[List.length_map];exact a1,fun t ht=>?_,a3,?_⟩
  ·have ho:=xEm.o t ht
   obtain⟨s,hs,rfl⟩:=List.mem_map.1 ht
   obtain⟨q1,q2,q3,q4,q5,q6,q7,q8,q9⟩:=zhh s
   obtain⟨m1,m2,m3,m4,m5,m6,m7,m8⟩:=a2 s hs
   refine⟨by rw[q5];exact m1,by rw[q5];exact m2,by rw[q6];exact m3,by rw[q6];exact m4,by rw[q7];exact m5,by rw[q7];exact m6,by omega,?_⟩
   rw[q7]
   rcases m8 with k|k
   ·exact .inl k
   ·exact .inr (by omega)
  ·have:zT (zav W)=zT W:=by
    unfold zT zav
    rw[List.map_map]
    exact List.map_congr_left fun t _=>(zhh t).2.1
   rw[this];exact a4
 have xLX:∀t∈(zav W).t,LX t:=fun t ht=>by
  obtain⟨s,hs,rfl⟩:=List.mem_map.1 ht
  exact(zhh s).2.2.2.2.2.2.2.2
 have xLog:(zav W).log.length<=120:=by
  have hLog:W.log.length<=0+e.length:=hLog
  show W.log.length<=120
  omega
 have xEpo:(zav W).c.epoch<=120:=by
  show W.c.epoch<=120
  omega
 have hops:∀t∈W.t,t.ops.length<=190:=fun t ht=>by have:=hEm.o t ht;omega
 have uDead:zcZ (drainW 350 (zav W)):=zlx 350 _ 311 xMay xLX (fun t ht _=>by
  have hT:=(zP.1 xMay).2.1 t ht
  have:=zxX (c:=(zav W).c) hT.2.2.1
  have:=xEm.o t ht
  have:=hT.2.2.2.2.1
  unfold Qt
  omega) (by decide)
 have uEm:EmW (n*16).toNat 61 (drainW 350 (zav W)):=zdJ (P:=EmW (n*16).toNat 61) (fun w n h=>h.do_ _) 350 _ xEm
 have uEp:EpW (drainW 350 (zav W)):=zdJ (P:=EpW) (fun w n h=>h.do_ _) 350 _ xEp
 have uMay:zQ (drainW 350 (zav W))=true:=zdJ (P:=fun w=>zQ w=true) (fun w n h=>zdQ h _) 350 _ xMay
 have uEpo:(drainW 350 (zav W)).c.epoch<=120:=zdJ (P:=fun w=>w.c.epoch<=120) (fun w n h=>by
  show(doW w ⟨0,n⟩).c.epoch<=120
  rw[(zyt w ⟨0,n⟩).2 rfl];exact h) 350 _ xEpo
 have uLog:=znQ 350 _ xMay
 have hL64:(n*16).toNat<=64:=by omega
 have vPh:(zcU W).c.phase=0:=zkt uMay uDead uEm.k
 obtain⟨vDead,vMay,vLog,vEpo⟩:=zg3 (za6 (drainW 350 (zav W))) _ uMay uDead
 have vEm:EmW (n*16).toNat 61 (zcU W):=EmW.rounds _ uEm
 have vEp:EpW (zcU W):=EpW.roundsW _ uEp
 have vDead:zcZ (zcU W):=vDead
 have vMay:zQ (zcU W)=true:=vMay
 have vLog:(zcU W).log.length<=(drainW 350 (zav W)).log.length:=vLog
 have vEpo:(zcU W).c.epoch=(drainW 350 (zav W)).c.epoch:=vEpo
 obtain⟨b1,b2,b3,b4⟩:=zP.1 vMay
 have hsE:zay (zcU W).c=0:=by
  unfold zay
  rw[if_pos b3,if_pos vPh,if_neg (by omega)]
 have hst:zal (zcU W) true={zcU W with c:=⟨1,(zcU W).c.epoch+1,true,[],false,0,0,0,0,false⟩}:=by
  unfold zal doW
  rw[if_pos vMay]
  show startW (zcU W) true=_
  unfold startW
  rw[if_pos hsE]
  unfold zbS
  rw[if_pos hsE]
 have sMay:zQ (zal (zcU W) true)=true:=zdQ vMay _
 have sEm:EmW (n*16).toNat 61 (zal (zcU W) true):=vEm.do_ _
 have sDead:zcZ (zal (zcU W) true):=by rw[hst];exact vDead
 have sB:za6 (zal (zcU W) true)=za6 (zcU W):=by rw[hst];rfl
 have sFS:FS (zal (zcU W) true).h (zal (zcU W) true).c:=by
  rw[hst]
  exact⟨by show(1:Int)<=1;decide,by show(1:Int)≠4;decide,rfl,rfl,rfl,rfl,rfl,fun _=>rfl,fun u hu=>by
   have:=(vEp.h u hu).1
   show(headH (zcU W).h u).mark<(zcU W).c.epoch+1
   omega,fun k=>absurd k (by show ¬(1:Int)=6;decide)⟩
 have xPh:(zk0 W).c.phase=0:=by
  have:=zkt sMay sDead sEm.k
  rw[sB]at this
  exact this
 obtain⟨eDead,eMay,_,_⟩:=zg3 (za6 (zcU W)) _ sMay sDead
 have eDead:zcZ (zk0 W):=eDead
 have eMay:zQ (zk0 W)=true:=eMay
 have eEm:EmW (n*16).toNat 61 (zk0 W):=EmW.rounds _ sEm
 have eNo:∀u,headE (zk0 W).h u≠0:=by
  rcases zkV (za6 (zcU W)) _ sMay sDead (.inl sFS) with h|⟨_,h⟩
  ·have h1:1<=(zk0 W).c.phase:=h.p1
   omega
  ·exact h
 exact⟨hops,xMay,⟨uMay,by omega,by rw[uEm.z.l];exact hL64⟩,⟨vMay,by omega,by rw[vEm.z.l];exact hL64⟩,eMay,by omega,eDead,
  List.eq_nil_iff_forall_not_mem.2 fun u hu=>eNo u (zaa.1 hu),zr9 g1 eMay eDead eEm eNo⟩
open Go.Proofs Go.Proofs.YtlankjlnnimdoaaGreatDoor
set_option maxRecDepth 60000
set_option maxHeartbeats 4000000
theorem zvr (n:Int) (l:List (List Op)) (e:List Pair) (he:zca n l≠0):Spec X 9 [] [.int n,.c (.d (.sl .opss l)),.c (.d (.sl .pair e))] (Ret [] (.tup [(madeW n l).tv,.int (zca n l)])):=by
 refine zGO X_ok Tryz.f9 fun hb hH=>⟨rfl,?_⟩
 show ACall ..
 refine za (zjJ n l) rfl ?_
 generalize madeW n l=w
 show ABr (zca n l != 0) _ _
 rw[show(zca n l != 0)=true by simpa using he]
 refine zYE (by decide) ?_
 show ARet ..
 exact⟨[],[],[w.tv,.int (zca n l)],.cons _ _ _ _ (.agg _ _ (zb rfl)) (.cons _ _ _ _ .same .nil),.nil,rfl,rfl,rfl⟩
theorem zva (n:Int) (l:List (List Op)) (e:List Pair) (he:zca n l=0) (hl:e.length<=20000) (hF:∀i,i<=e.length->(runW (madeW n l) (e.take i)).Fit):Spec X 9 [] [.int n,.c (.d (.sl .opss l)),.c (.d (.sl .pair e))] (Ret [(0,.data .thread (runW (madeW n l) e).t)] (.tup [.agg (wdT (runW (madeW n l) e) 0),.int 0])):=by
 refine zGO X_ok Tryz.f9 fun hb hH=>⟨rfl,?_⟩
 show ACall ..
 refine za (zjJ n l) rfl ?_
 show ABr (zca n l != 0) _ _
 rw[show(zca n l != 0)=false by simpa using he]
 refine zNO (by decide) ?_
 generalize madeW n l=w at hF ⊢
 show ACall ..
 refine .mk _ (zsb w e hl hF) fun H r ⟨eH,er⟩ _ _=>⟨.inl rfl,?_⟩
 subst eH er
 generalize runW w e=w'
 show ARet ..
 refine⟨[(512,0)],[(0,.data .thread w'.t)],[.agg (wdT w' 0),.int 0],.cons _ _ _ _ (.agg _ _ ?_) (.cons _ _ _ _ .same .nil),.old 0 512 _ _ _ rfl rfl (.data_eq rfl) .nil,rfl,rfl,rfl⟩
 repeat (first|exact .nil|refine .cons _ _ _ _ (.d _) ?_|refine .cons _ _ _ _ (.own _ _ rfl) ?_)
theorem zoN (w:Wd) (hw:zQ w=true) (hL:w.log.length<=900000):Spec X 10 [] [w.tv] (Ret [] (drainW 350 w).tv):=by
 refine zGO X_ok Tryz.f10 fun hb hH=>⟨rfl,?_⟩
 show ∃n,_
 refine⟨0,ALoop.inv (ι:={q:Nat×Wd×Bool // q.1<=350/\(if q.2.2=true then drainW (350-q.1) q.2.1 else q.2.1)=drainW 350 w/\zQ q.2.1=true/\q.2.1.log.length<=w.log.length+4*q.1}) (fun q=>⟨[(1,.c (.ptr 0 0 0)),(2,.c (.ptr 1 0 0)),(3,.bo (q.1.2.2)),(4,.int ((q.1.1:Int)))],[(0,.vars (q.1.2.1.cells.map .d)),(1,.vars (List.replicate 18 .any))],128⟩) (fun q=>351-q.1.1) ⟨(0,w,true),Nat.zero_le _,rfl,hw,Nat.le_refl _⟩ ?_ ?_⟩
 ·exact⟨[(32,0),(64,1)],(by repeat' first|exact .nil|refine .cons _ _ _ ?_ ?_|exact .c _ _ (.ptr _ _ _ _ rfl)|exact .same|exact .c _ _ (.own _ _ rfl)|exact .c _ _ (.ptr _ _ _ _ rfl)|exact .c _ _ (.frz _ _ rfl)|exact .any _),(by exact .old 0 32 _ _ _ rfl rfl (.vars _ _ (by repeat (first|exact .nil|refine .cons _ _ _ _ (.d _) ?_))) (.old 1 64 _ _ _ rfl rfl (.vars _ _ (by repeat (first|exact .nil|refine .cons _ _ _ _ (.any _) ?_))) .nil)),(by rfl)⟩
 rintro⟨⟨i,u,b⟩,hi,hr,hp,hl⟩
 have hi:i<=350:=hi
 have hr:(if b=true then drainW (350-i) u else u)=drainW 350 w:=hr
 have hp:zQ u=true:=hp
 have hl:u.log.length<=w.log.length+4*i:=hl
 have h4:=(zP.1 hp).1
 show ABr (bif decide ((i:Int)<350) then b else false) _ _
 by_cases hlt:i<350
 ·rw[decide_eq_true (show(i:Int)<350 by omega)]
  show ABr b _ _
  cases b with
  |false=>
   refine zNO (by decide) ?_
   have he:u=drainW 350 w:=hr
   show ARet ..
   refine⟨[],[],[(u).tv],.cons _ _ _ _ (.agg _ _ ?_) .nil,.nil,rfl,rfl,congrArg (fun x:Wd=>x.tv) he⟩
   repeat (first|exact .nil|refine .cons _ _ _ _ (.d _) ?_|refine .cons _ _ _ _ (.nilsl _) ?_|refine .cons _ _ _ _ (.frz _ _ rfl) ?_)
  |true=>
   refine zYE (by decide) ?_
   have hr:drainW (350-i) u=drainW 350 w:=hr
   have hrd:(if zdH u u.t.length=true then drainW (350-(i+1)) (zJ u u.t.length) else zJ u u.t.length)=drainW 350 w:=by
    rw[←hr,show 350-i=(350-(i+1))+1 by omega];rfl
   have wi:IntKind.i64.wrap ((i:Int)+1)=((i+1:Nat):Int):=zad (i:=i) (by unfold zE;omega)
   show ∃n,_
   refine⟨0,ALoop.inv (ι:={q:Nat // q<=u.t.length}) (fun q=>⟨[(1,.c (.ptr 0 0 0)),(2,.c (.ptr 1 0 0)),(3,.bo ((zdH u q.1))),(4,.int ((i:Int))),(5,.int ((q.1:Int)))],[(0,.vars ((zJ u q.1).cells.map .d)),(1,.vars (List.replicate 18 .any))],128⟩) (fun q=>u.t.length-q.1) ⟨0,Nat.zero_le _⟩ ?_ ?_⟩
   ·exact⟨[(0,0),(1,1)],(by repeat' first|exact .nil|refine .cons _ _ _ ?_ ?_|exact .c _ _ (.ptr _ _ _ _ rfl)|exact .same|exact .c _ _ (.own _ _ rfl)|exact .c _ _ (.ptr _ _ _ _ rfl)|exact .c _ _ (.frz _ _ rfl)|exact .any _),(by exact .old 0 0 _ _ _ rfl rfl (.vars _ _ (by repeat (first|exact .nil|refine .cons _ _ _ _ (.d _) ?_))) (.old 1 1 _ _ _ rfl rfl (.vars _ _ (by repeat (first|exact .nil|refine .cons _ _ _ _ (.any _) ?_))) .nil)),(by rfl)⟩
   rintro⟨j,hj⟩
   have hj:j<=u.t.length:=hj
   obtain⟨k1,k2⟩:=zhl hp j
   have klen:=zeu u j
   have kstep:zJ u (j+1)=doW (zJ u j) ⟨0,(j:Int)⟩:=rfl
   have kbusy:zdH u (j+1)=(zdH u j || zqi ((zJ u j).t.getD j default)):=rfl
   show ABr (decide ((j:Int)<((zJ u j).t.length:Int))) _ _
   by_cases hjl:j<u.t.length
   ·rw[decide_eq_true (show(j:Int)<((zJ u j).t.length:Int) by omega)]
    refine zYE (by decide) ?_
    have wj:IntKind.i64.wrap ((j:Int)+1)=((j+1:Nat):Int):=zad (i:=j) (by unfold zE;omega)
    have hob:(0:Int)<=(j:Int)/\(j:Int)<((zJ u j).t.length:Int):=by omega
    show AOb ..
    refine⟨by exact fun _=>hob,?_⟩
    show AOb ..
    refine⟨by exact fun _=>hob,?_⟩
    have hbs:(bif zdH u j then true else (bif ((zJ u j).t.getD j default).live then decide ((((zJ u j).t.getD j default).ops.length:Int)>0) else false))=zdH u (j+1):=by
     rw[kbusy]
     unfold zqi
     cases zdH u j
     ·cases ((zJ u j).t.getD j default).live
      ·rfl
      ·show decide _=decide _
       rw[decide_eq_decide]
       omega
     ·rfl
    obtain⟨b',hb'⟩:∃b',b' = zdH u (j+1):=⟨_,rfl⟩
    rw[←hb']at hbs
    show ACall ..
    refine za (zd9 (zJ u j) ⟨0,(j:Int)⟩ (zhv k1 (Nat.le_trans k2 (by omega)))) rfl ?_
    generalize doWE (zJ u j) ⟨0,(j:Int)⟩=x
    rw[←kstep]
    subst hb'
    show ARound ..
    exact⟨⟨j+1,hjl⟩,(by dsimp only;omega),[(0,0),(1,1)],(by repeat' first|exact .nil|refine .cons _ _ _ ?_ ?_|exact .c _ _ (.ptr _ _ _ _ rfl)|exact .int_eq wj|exact .bo_eq hbs|exact .same|exact .c _ _ (.own _ _ rfl)|exact .c _ _ (.ptr _ _ _ _ rfl)|exact .c _ _ (.frz _ _ rfl)|exact .any _),(by exact .old 0 0 _ _ _ rfl rfl (.vars _ _ (by repeat (first|exact .nil|refine .cons _ _ _ _ (.d _) ?_))) (.old 1 1 _ _ _ rfl rfl (.vars _ _ (by repeat (first|exact .nil|refine .cons _ _ _ _ (.any _) ?_))) .nil)),(by rfl)⟩
   ·rw[decide_eq_false (show ¬(j:Int)<((zJ u j).t.length:Int) by omega)]
    refine zNO (by decide) ?_
    have hje:j=u.t.length:=by omega
    rw[←hje]at hrd
    show ARound ..
    exact⟨⟨(i+1,zJ u j,zdH u j),hlt,hrd,k1,Nat.le_trans k2 (by omega)⟩,(by dsimp only;omega),[(0,0),(1,1)],(by repeat' first|exact .nil|refine .cons _ _ _ ?_ ?_|exact .c _ _ (.ptr _ _ _ _ rfl)|exact .int_eq wi|exact .same|exact .c _ _ (.own _ _ rfl)|exact .c _ _ (.ptr _ _ _ _ rfl)|exact .c _ _ (.frz _ _ rfl)|exact .any _),(by exact .old 0 0 _ _ _ rfl rfl (.vars _ _ (by repeat (first|exact .nil|refine .cons _ _ _ _ (.d _) ?_))) (.old 1 1 _ _ _ rfl rfl (.vars _ _ (by repeat (first|exact .nil|refine .cons _ _ _ _ (.any _) ?_))) .nil)),(by rfl)⟩
 ·rw[decide_eq_false (show ¬(i:Int)<350 by omega)]
  show ABr false _ _
  refine zNO (by decide) ?_
  have he:u=drainW 350 w:=by
   rw[show 350-i=0 by omega]at hr
   cases b with
   |true=>exact hr
   |false=>exact hr
  show ARet ..
  refine⟨[],[],[(u).tv],.cons _ _ _ _ (.agg _ _ ?_) .nil,.nil,rfl,rfl,congrArg (fun x:Wd=>x.tv) he⟩
  repeat (first|exact .nil|refine .cons _ _ _ _ (.d _) ?_|refine .cons _ _ _ _ (.nilsl _) ?_|refine .cons _ _ _ _ (.frz _ _ rfl) ?_)
theorem zyS {w:Wd} (h:w.h.w.length<=1024):IntKind.i64.wrap (IntKind.i64.wrap (tdv (IntKind.i64.wrap ((w.h.w.length:Int)*(w.h.w.length:Int))) 4+IntKind.i64.wrap (10*(w.h.w.length:Int)))+100)=(za6 w:Int):=by
 unfold za6
 generalize w.h.w.length=n at *
 have hb:(n:Int)*(n:Int)<=1024*1024:=Int.mul_le_mul (by omega) (by omega) (by omega) (by omega)
 have h0:0<=(n:Int)*(n:Int):=Int.mul_nonneg (by omega) (by omega)
 have hc:(((n*n / 4+10*n+100:Nat)):Int)=(n:Int)*(n:Int) / 4+10*(n:Int)+100:=by omega
 rw[hc]
 generalize (n:Int)*(n:Int)=m at *
 have e1:IntKind.i64.wrap m=m:=zB (by omega) (by omega)
 have e2:IntKind.i64.wrap (10*(n:Int))=10*(n:Int):=zB (by omega) (by omega)
 rw[e1,e2,zmP h0 (by decide) (by omega),zB (n:=m / 4+10*(n:Int)) (by omega) (by omega)]
 exact zB (by omega) (by omega)
theorem zlq (w:Wd) (hw:w.h.w.length<=1024):Spec X 12 [] [w.tv] (Ret [] (.int (za6 w:Int))):=by
 refine zGO X_ok Tryz.f12 fun hb hH=>⟨rfl,?_⟩
 show AOb ..
 refine⟨by decide,?_⟩
 show ARet ..
 refine zaZ (zyS hw) ⟨rfl,rfl⟩
def zbO (i:Nat) (l:List Thread):List Thread:=(l.take i).map zc2++l.drop i
theorem zwY {i:Nat} {l:List Thread} (h:i<=l.length):(zbO i l).length=l.length:=by
 unfold zbO
 rw[List.length_append,List.length_map,List.length_take,List.length_drop]
 omega
theorem zxb {i:Nat} {l:List Thread} (h:i<l.length):(zbO i l).getD i default=l.getD i default:=by
 unfold zbO
 rw[List.getD_eq_getElem?_getD,List.getElem?_append_right (by rw[List.length_map,List.length_take];omega),List.getElem?_drop,List.getD_eq_getElem?_getD]
 congr 2
 have:((l.take i).map zc2).length=i:=by simp;omega
 omega
theorem zwL {i:Nat} {l:List Thread} (h:i<l.length):(zbO i l).set i (zc2 (l.getD i default))=zbO (i+1) l:=by
 have e:l.drop i=l.getD i default::l.drop (i+1):=by
  rw[List.drop_eq_getElem_cons h,List.getD_eq_getElem?_getD,List.getElem?_eq_getElem h];rfl
 have hn:((l.take i).map zc2).length=i:=by simp;omega
 unfold zbO
 rw[e,List.set_append,if_neg (by omega),hn,Nat.sub_self,ziW zc2 h]
 simp
theorem zpF {w:Wd} (h:w.h.w.length<=64):za6 w<=1764:=by
 have:w.h.w.length*w.h.w.length<=64*64:=Nat.mul_le_mul h h
 unfold za6
 omega
theorem zm9 (n:Int) (l:List (List Op)) (e:List Pair) (hE:zfp l e 120=true->n<=4->zca n l=0->EmptyOk n (runW (madeW n l) e)):Spec X 3 [] [.int n,.c (.d (.sl .opss l)),.c (.d (.sl .pair e))] (Ret [] (.bo true)):=by
 refine zGO X_ok Tryz.f3 fun hb hH=>⟨rfl,?_⟩
 have hle:e.length<=zE:=(hb (.c (.d (.sl .pair e))) (by simp)).1
 unfold zE at hle
 show ACall ..
 refine za (zyC) rfl ?_
 show ACall ..
 refine za (zoM l e 120) rfl ?_
 cases hL:zfp l e 120 with
 |false=>
  show ABr true _ _
  refine zYE (by decide) ?_
  show ARet ..
  exact zi rfl ⟨rfl,rfl⟩
 |true=>
  show ABr (decide (n>4)) _ _
  by_cases hn:n<=4
  ·rw[decide_eq_false (show ¬n>4 by omega)]
   refine zNO (by decide) ?_
   have hel:e.length<=120:=by
    unfold zfp at hL
    simp only[Bool.and_eq_true,decide_eq_true_eq]at hL
    omega
   by_cases h0:zca n l≠0
   ·show ACall ..
    refine .mk _ (zvr n l e h0) fun H r ⟨eH,er⟩ _ _=>⟨.inl rfl,?_⟩
    subst eH er
    generalize madeW n l=W
    show ABr (zca n l != 0) _ _
    rw[show(zca n l != 0)=true by simpa using h0]
    refine zYE (by decide) ?_
    show ARet ..
    exact zi rfl ⟨rfl,rfl⟩
   ·have h0:=Classical.not_not.1 h0
    have hF':=zuc h0 (e:=e) (by omega)
    obtain⟨W,hW⟩:∃W,W=runW (madeW n l) e:=⟨_,rfl⟩
    show ACall ..
    refine .mk _ (zva n l e h0 (by omega) (fun i _=>hF' i)) fun H r ⟨eH,er⟩ _ _=>⟨.inl rfl,?_⟩
    subst eH er
    have hE:=hE hL hn h0
    rw[←hW]at hE ⊢
    refine zNO (by decide) ?_
    have h4:W.t.length<=4:=by have:=(zP.1 hE.may).1;unfold zav at this;simpa using this
    show ∃n,_
    refine⟨0,ALoop.inv (ι:={i:Nat // i<=W.t.length}) (fun q=>⟨[(0,.int (n)),(9,.c (.ptr 0 0 0)),(11,.int (q.1))],[(0,.vars (wdT W 1)),(1,.data .thread (zbO q.1 W.t))],64⟩) (fun q=>W.t.length-q.1) ⟨0,Nat.zero_le _⟩ ?_ ?_⟩
    ·exact⟨[(800,0),(672,1)],(by repeat' first|exact .nil|refine .cons _ _ _ ?_ ?_|exact .c _ _ (.ptr _ _ _ _ rfl)|exact .same|exact .c _ _ (.own _ _ rfl)|exact .c _ _ (.ptr _ _ _ _ rfl)|exact .c _ _ (.frz _ _ rfl)|exact .any _),(by exact .old 0 800 _ _ _ rfl rfl (.vars _ _ (by repeat (first|exact .nil|refine .cons _ _ _ _ (.d _) ?_|refine .cons _ _ _ _ (.own _ _ rfl) ?_))) (.old 1 672 _ _ _ rfl rfl (.data_eq rfl) .nil)),(by rfl)⟩
    rintro⟨i,hi⟩
    have hi:i<=W.t.length:=hi
    have hpl:=zwY hi
    show ABr (decide ((i:Int)<((zbO i W.t).length:Int))) _ _
    by_cases hlt:i<W.t.length
    ·have wi:IntKind.i64.wrap ((i:Int)+1)=((i+1:Nat):Int):=zad (i:=i) (by unfold zE;omega)
     rw[decide_eq_true (show(i:Int)<((zbO i W.t).length:Int) by omega)]
     refine zYE (by decide) ?_
     have hob:(0:Int)<=(i:Int)/\(i:Int)<((zbO i W.t).length:Int):=by omega
     have hob2:i<(zbO i W.t).length:=by omega
     have hget:=zxb hlt
     show AOb ..
     refine⟨by exact hob,?_⟩
     show AOb ..
     refine⟨by exact hob2,?_⟩
     show ABr (!((zbO i W.t).getD i default).live) _ _
     rw[hget]
     have hset:=zwL hlt
     cases hlv:(W.t.getD i default).live with
     |false=>
      refine zYE (by decide) ?_
      have hx:zc2 (W.t.getD i default)=W.t.getD i default:=if_neg (by rw[hlv];decide)
      rw[hx,←hget,zmm hob2]at hset
      show ARound ..
      exact⟨⟨i+1,hlt⟩,(by dsimp only;omega),[(0,0),(1,1)],(by repeat' first|exact .nil|refine .cons _ _ _ ?_ ?_|exact .c _ _ (.ptr _ _ _ _ rfl)|exact .int_eq wi|exact .same|exact .c _ _ (.own _ _ rfl)|exact .c _ _ (.ptr _ _ _ _ rfl)|exact .c _ _ (.frz _ _ rfl)|exact .any _),(by exact .old 0 0 _ _ _ rfl rfl (.vars _ _ (by repeat (first|exact .nil|refine .cons _ _ _ _ (.d _) ?_|refine .cons _ _ _ _ (.own _ _ rfl) ?_))) (.old 1 1 _ _ _ rfl rfl (.data_eq hset) .nil)),(by rfl)⟩
     |true=>
      refine zNO (by decide) ?_
      have hx:zc2 (W.t.getD i default)={W.t.getD i default with ops:=(W.t.getD i default).ops++[opX]}:=if_pos hlv
      show AOb ..
      refine⟨by exact hob,?_⟩
      show AOb ..
      refine⟨by exact hob2,?_⟩
      have hops:=hE.ops _ (zdM hlt)
      show AOb (((zbO i W.t).getD i default).ops.length<=zk) _
      refine⟨by rw[hget];unfold zk;omega,?_⟩
      show AOb ..
      refine⟨by exact hob,?_⟩
      show AOb ..
      refine⟨by exact hob2,?_⟩
      show AOb ..
      refine⟨by exact hob,?_⟩
      show AOb ..
      refine⟨by rfl,?_⟩
      show ABr (decide ((((zbO i W.t).getD i default).ops.length:Int)>=200)) _ _
      rw[decide_eq_false (show ¬(((zbO i W.t).getD i default).ops.length:Int)>=200 by rw[hget];omega)]
      refine zNO (by decide) ?_
      show AOb ..
      refine⟨by exact hob,?_⟩
      show AOb ..
      refine⟨by rfl,?_⟩
      show AOb (((zbO i W.t).getD i default).ops.length+1<=zk) _
      refine⟨by rw[hget];unfold zk;omega,?_⟩
      show AOb ..
      refine⟨by exact hob,?_⟩
      show AOb ..
      refine⟨by rfl,?_⟩
      have hd:(zbO i W.t).set i {(zbO i W.t).getD i default with ops:=((zbO i W.t).getD i default).ops++[opX]}=zbO (i+1) W.t:=by rw[hget,←hx];exact hset
      show ARound ..
      exact⟨⟨i+1,hlt⟩,(by dsimp only;omega),[(0,0),(1,1)],(by repeat' first|exact .nil|refine .cons _ _ _ ?_ ?_|exact .c _ _ (.ptr _ _ _ _ rfl)|exact .int_eq wi|exact .same|exact .c _ _ (.own _ _ rfl)|exact .c _ _ (.ptr _ _ _ _ rfl)|exact .c _ _ (.frz _ _ rfl)|exact .any _),(by exact .old 0 0 _ _ _ rfl rfl (.vars _ _ (by repeat (first|exact .nil|refine .cons _ _ _ _ (.d _) ?_|refine .cons _ _ _ _ (.own _ _ rfl) ?_))) (.old 1 1 _ _ _ rfl rfl (.data_eq hd) .nil)),(by rfl)⟩
    ·rw[decide_eq_false (show ¬(i:Int)<((zbO i W.t).length:Int) by omega)]
     refine zNO (by decide) ?_
     have hpe:zbO i W.t=(zav W).t:=by
      unfold zbO zav
      rw[show i=W.t.length by omega,List.take_length,List.drop_length,List.append_nil]
     show ACall ..
     refine .frz [1] [(0,.vars ((zav W).cells.map .d))] [(zav W).tv] _ rfl (.vars 0 _ _ _ rfl rfl ?_ .nil) (.cons _ _ _ _ (.agg _ _ ?_) .nil) rfl (zoN (zav W) hE.may (Nat.le_trans hE.log (by decide))) ?_
     ·repeat (first|exact .nil|refine .cons _ _ _ _ (.same _) ?_|refine .cons _ _ _ _ (.frz _ _ (congrArg (fun l=>some (DV.sl .thread l)) hpe)) ?_)
     ·repeat (first|exact .nil|refine .cons _ _ _ _ (.same _) ?_|refine .cons _ _ _ _ (.frz _ _ (congrArg (fun l=>some (DV.sl .thread l)) hpe)) ?_)
     rintro H r ⟨rfl,rfl⟩ _ _
     obtain⟨_,_,⟨a1,a2,a3⟩,⟨b1,b2,b3⟩,c1,_,hdead,hused,hsame⟩:=hE
     unfold zk0 at c1 hdead hused hsame
     unfold zcU at *
     generalize drainW 350 (zav W)=u at *
     have d1:=zpF a3
     show ADCall ..
     refine .mk _ _ (zlq u (by omega)) rfl ?_
     show ADCall ..
     refine .mk _ _ (zgO u (za6 u) a1 (by omega)) rfl ?_
     generalize roundsW (za6 u) u=v at *
     have d2:=zpF b3
     have hfv:=zhv b1 (by omega)
     have hms:zQ (zal v true)=true:=zdQ b1 _
     have hls:(zal v true).log.length<=v.log.length+1:=zke v _
     show ADCall ..
     refine .mk _ _ (ziF v true hfv) rfl ?_
     show ADCall ..
     refine .mk _ _ (zlq v (by omega)) rfl ?_
     show ADCall ..
     refine .mk _ _ (zgO (zal v true) (za6 v) hms (by omega)) rfl ?_
     generalize roundsW (za6 v) (zal v true)=x at *
     have x4:=(zP.1 c1).1
     show ∃n,_
     refine⟨0,ALoop.inv (ι:={j:Nat // j<=x.t.length}) (fun q=>⟨[(0,.int (n)),(9,.c (.ptr 0 0 0)),(12,.int (q.1))],[(0,.vars (x.cells.map .d))],64⟩) (fun q=>x.t.length-q.1) ⟨0,Nat.zero_le _⟩ ?_ ?_⟩
     ·exact⟨[(0,0)],(by repeat' first|exact .nil|refine .cons _ _ _ ?_ ?_|exact .c _ _ (.ptr _ _ _ _ rfl)|exact .same|exact .c _ _ (.own _ _ rfl)|exact .c _ _ (.ptr _ _ _ _ rfl)|exact .c _ _ (.frz _ _ rfl)|exact .any _),(by exact .old 0 0 _ _ _ rfl rfl (.vars _ _ (by repeat (first|exact .nil|refine .cons _ _ _ _ (.d _) ?_))) .nil),(by rfl)⟩
     rintro⟨j,hj⟩
     have hj:j<=x.t.length:=hj
     show ABr (decide ((j:Int)<(x.t.length:Int))) _ _
     refine⟨fun h=>?_,fun h=>?_⟩
     ·have hlt:j<x.t.length:=by simpa using h
      have wj:IntKind.i64.wrap ((j:Int)+1)=((j+1:Nat):Int):=zad (i:=j) (by unfold zE;omega)
      show AOb ..
      refine⟨by exact⟨Int.natCast_nonneg _,Int.ofNat_lt.2 hlt⟩,?_⟩
      show ABr (x.t.getD j default).live _ _
      rw[hdead _ (zdM hlt)]
      refine zNO (by decide) ?_
      show ARound ..
      exact⟨⟨j+1,hlt⟩,(by dsimp only;omega),[(0,0)],(by repeat' first|exact .nil|refine .cons _ _ _ ?_ ?_|exact .c _ _ (.ptr _ _ _ _ rfl)|exact .int_eq wj|exact .same|exact .c _ _ (.own _ _ rfl)|exact .c _ _ (.ptr _ _ _ _ rfl)|exact .c _ _ (.frz _ _ rfl)|exact .any _),(by exact .old 0 0 _ _ _ rfl rfl (.vars _ _ (by repeat (first|exact .nil|refine .cons _ _ _ _ (.d _) ?_))) .nil),(by rfl)⟩
     ·show ACall ..
      refine za (znN n) rfl ?_
      obtain⟨g,hg⟩:∃g,g=newH n:=⟨_,rfl⟩
      rw[←hg]at hsame ⊢
      show ACall ..
      refine za (zlt x c1) rfl ?_
      rw[hused]
      show AIf ..
      refine⟨fun _=>?_,fun h=>absurd ⟨(by rfl),trivial⟩ h⟩
      show ACall ..
      refine za (zsL {g with cards:=x.h.cards} x.h) rfl ?_
      show ARet ..
      refine zt (x:=decide ({g with cards:=x.h.cards}=x.h)) (decide_eq_true hsame) ⟨rfl,rfl⟩
  ·rw[decide_eq_true (show n>4 by omega)]
   refine zYE (by decide) ?_
   show ARet ..
   exact zi rfl ⟨rfl,rfl⟩
theorem TopEmpty_spec (n:Int) (l:List (List Op)) (e:List Pair):Spec X 3 [] [.int n,.c (.d (.sl .opss l)),.c (.d (.sl .pair e))] (Ret [] (.bo true)):=
 zm9 n l e fun hL hn h0=>zwM (by
  unfold zfp at hL
  simp only[Bool.and_eq_true,decide_eq_true_eq,List.all_eq_true]at hL
  exact⟨hL.1,by omega,fun o ho=>hL.2.2 o ho⟩) hn h0
end Go.Abs
