/- Walks and plain laws: WCycleK, WWorldK, WCycleP, WArena2, WScan, WTrace, WHand, WHand2, WHand4, WCycle. -/
import Derived.Test.YtlankjlnnimdoaaGreatDoorPf
import Derived.Test.YtlankjlnnimdoaaGreatDoorPe
import Derived.Test.YtlankjlnnimdoaaGreatDoorPc
import Derived.Test.YtlankjlnnimdoaaGreatDoorPb
set_option linter.all false
namespace Go.Abs
set_option maxRecDepth 8000
def zbi (c:Col):Bool:=decide (0<=c.phase/\c.phase<=6/\(if c.phase=0 then 0 else 1)<=c.epoch/\c.epoch<=1048576/\(c.work.length:Int)<=4)
def Col.none:Col:=⟨0,0,false,[],false,0,0,0,0,false⟩
def zay (c:Col):Int:=if zbi c=true then (if c.phase=0 then (if c.epoch=1048576 then 2 else 0) else 4) else 1
def zbS (c:Col) (major:Bool):Col:=if zay c=0 then ⟨1,c.epoch+1,major,[],false,0,0,0,0,false⟩ else Col.none
def zgj (c:Col):Col:=if c.phase=3 then {c with phase:=if c.major=true then 5 else 4,at_:=0,field_:=0,seek:=0,card:=0,met:=false} else {c with phase:=c.phase+1}
def waitC (c:Col) (l:List Thread):Col:=if zir c l=true then zgj c else c
def zbN (g:Hp) (c:Col) (l:List Thread):Hp×Col:=
 if zbi c=true/\c.phase≠0 then
  (if c.phase=4 then zhY g c else if c.phase=5 then zfa g c else if c.phase=6 then ze8 g c else (g,waitC c l))
 else (g,c)
inductive CStep (g:Hp) (c:Col) (l:List Thread):Hp->Col->Prop
 |idle (h:¬(zbi c=true/\c.phase≠0)):CStep g c l g c
 |stay (hm:zbi c=true) (h1:1<=c.phase) (h3:c.phase<=3) (ha:zir c l=false):CStep g c l g c
 |next (hm:zbi c=true) (h1:1<=c.phase) (h3:c.phase<=3) (ha:zir c l=true):CStep g c l g (zgj c)
 |scan (hm:zbi c=true) (hp:c.phase=4) {k:Hp} {d:Col} (s:SStep g c k d):CStep g c l k d
 |trace (hm:zbi c=true) (hp:c.phase=5) {k:Hp} {d:Col} (s:TStep g c k d):CStep g c l k d
 |sweep (hm:zbi c=true) (hp:c.phase=6) {k:Hp} {d:Col} (s:SwStep g c k d):CStep g c l k d
theorem zeT {c:Col} (h:zbi c=true):0<=c.phase/\c.phase<=6/\0<=c.epoch/\(c.phase≠0->1<=c.epoch)/\c.epoch<=1048576/\c.work.length<=4:=by
 obtain⟨h1,h2,h3,h4,h5⟩:=of_decide_eq_true h
 refine⟨h1,h2,?_,fun hp=>?_,h4,by omega⟩
 ·by_cases hp:c.phase=0
  ·rw[if_pos hp]at h3;omega
  ·rw[if_neg hp]at h3;omega
 ·rw[if_neg hp]at h3;omega
theorem zrJ {c:Col} (h1:0<=c.phase) (h2:c.phase<=6) (h3:0<=c.epoch) (h4:c.phase≠0->1<=c.epoch) (h5:c.epoch<=1048576) (h6:c.work.length<=4):zbi c=true:=by
 refine decide_eq_true ⟨h1,h2,?_,h5,by omega⟩
 by_cases hp:c.phase=0
 ·rw[if_pos hp];omega
 ·rw[if_neg hp];exact h4 hp
theorem zc1 (g:Hp) (c:Col) (l:List Thread):CStep g c l (zbN g c l).1 (zbN g c l).2:=by
 unfold zbN
 by_cases h:zbi c=true/\c.phase≠0
 ·rw[if_pos h]
  obtain⟨hm,h0⟩:=h
  obtain⟨m1,m2,_⟩:=zeT hm
  by_cases h4:c.phase=4
  ·rw[if_pos h4];exact .scan hm h4 (zvd g c)
  ·rw[if_neg h4]
   by_cases h5:c.phase=5
   ·rw[if_pos h5];exact .trace hm h5 (ztj g c)
   ·rw[if_neg h5]
    by_cases h6:c.phase=6
    ·rw[if_pos h6];exact .sweep hm h6 (zsn g c)
    ·rw[if_neg h6]
     show CStep g c l g (waitC c l)
     unfold waitC
     cases ha:zir c l with
     |true=>rw[if_pos rfl];exact .next hm (by omega) (by omega) ha
     |false=>rw[if_neg (by decide)];exact .stay hm (by omega) (by omega) ha
 ·rw[if_neg h];exact .idle h
theorem zeP (g:Hp) (c:Col) (v:Int) (h:c.work.length<=4):(zG g c v).work.length<=4:=by
 by_cases e:atK g c v=1
 ·rw[zil e]
  split
  ·show(c.work++[v]).length<=_
   rw[List.length_append,List.length_singleton]
   omega
  ·exact h
 ·rw[zkj e];exact h
theorem znd (g:Hp) (c:Col) (v:Int) (h:c.work.length<=4):(zax g c v).2.work.length<=4:=by
 rcases zbJ g c v with⟨_,e⟩|⟨_,e⟩<;>rw[e]
 ·exact zeP g c v h
 ·exact h
theorem SStep.col {g k:Hp} {c d:Col} (s:SStep g c k d):d.epoch=c.epoch/\d.major=c.major/\(d.phase=c.phase\/c.phase=4/\d.phase=5)/\(c.work.length<=4->d.work.length<=4):=by
 cases s
 case last v hv=>obtain⟨e1,e2,e3,_⟩:=zi2 g c v;exact⟨e2,e3,.inl e1,znd g c v⟩
 case more v hv=>obtain⟨e1,e2,e3,_⟩:=zi2 g c v;exact⟨e2,e3,.inl e1,znd g c v⟩
 case fin=>exact⟨rfl,rfl,.inr ⟨by assumption,rfl⟩,id⟩
 all_goals exact⟨rfl,rfl,.inl rfl,id⟩
theorem TStep.work4 {g k:Hp} {c d:Col} (h:TStep g c k d) (h1:c.work.length<=4):d.work.length<=4:=by
 cases h
 case last v hv=>exact zeP g c v h1
 case more v hv=>exact zeP g c v h1
 case pop r x hw=>
  rw[hw,List.length_append]at h1
  show r.length<=_
  omega
 all_goals exact h1
theorem SwStep.ph {g k:Hp} {c d:Col} (s:SwStep g c k d):d.phase=c.phase\/c.phase=6/\d.phase=0:=by
 cases s<;>first|exact .inl rfl|exact .inr ⟨by assumption,rfl⟩
theorem CStep.col {g k:Hp} {c d:Col} {l:List Thread} (s:CStep g c l k d) :
  d.epoch=c.epoch/\d.major=c.major/\(d.phase=c.phase/\(c.phase=0\/zbi c=false\/4<=c.phase\/zir c l=false) \/
   (1<=c.phase/\c.phase<=2/\zir c l=true/\d.phase=c.phase+1)\/(c.phase=3/\zir c l=true/\d.phase=if c.major=true then 5 else 4)\/(4<=c.phase/\c.phase<=5/\d.phase=c.phase+1)\/(c.phase=6/\d.phase=0))/\(c.work.length<=4->d.work.length<=4):=by
 cases s
 case idle h=>
  refine⟨rfl,rfl,.inl ⟨rfl,?_⟩,id⟩
  by_cases h0:c.phase=0
  ·exact .inl h0
  ·exact .inr (.inl (by simpa using fun k=>h ⟨k,h0⟩))
 case stay ha=>exact⟨rfl,rfl,.inl ⟨rfl,.inr (.inr (.inr (by assumption)))⟩,id⟩
 case next hm h1 h3 ha=>
  unfold zgj
  by_cases hp:c.phase=3
  ·rw[if_pos hp]
   exact⟨rfl,rfl,.inr (.inr (.inl ⟨hp,ha,rfl⟩)),id⟩
  ·rw[if_neg hp]
   exact⟨rfl,rfl,.inr (.inl ⟨h1,by omega,ha,rfl⟩),id⟩
 case scan hm hp s=>
  obtain⟨e1,e2,e3,e4⟩:=s.col
  refine⟨e1,e2,?_,e4⟩
  rcases e3 with e|⟨_,e⟩
  ·exact .inl ⟨e,.inr (.inr (.inl (by omega)))⟩
  ·exact .inr (.inr (.inr (.inl ⟨by omega,by omega,by omega⟩)))
 case trace hm hp s=>
  obtain⟨e1,e2,e3⟩:=s.col
  refine⟨e1,e2,?_,s.work4⟩
  rcases e3 with e|⟨_,e⟩
  ·exact .inl ⟨e,.inr (.inr (.inl (by omega)))⟩
  ·exact .inr (.inr (.inr (.inl ⟨by omega,by omega,by omega⟩)))
 case sweep hm hp s=>
  obtain⟨e1,e2⟩:=s.col
  refine⟨e1,e2,?_,fun h=>?_⟩
  ·rcases s.ph with e|e
   ·exact .inl ⟨e,.inr (.inr (.inl (by omega)))⟩
   ·exact .inr (.inr (.inr (.inr e)))
  ·rcases s.work with e|e<;>rw[e]
   ·exact h
   ·exact Nat.zero_le _
theorem CStep.wlen {g k:Hp} {c d:Col} {l:List Thread} (s:CStep g c l k d):k.w.length=g.w.length:=by
 cases s
 case scan s=>exact s.keep.wlen
 case trace s=>exact s.marks.len
 case sweep s=>
  cases s with
  |old=>exact List.length_set
  |free hm hp hmet hn hl hq hf h0=>exact(zny hm h0).wlen
  |_=>rfl
 all_goals rfl
structure Wd where
 h:Hp
 c:Col
 t:List Thread
 log:List Res
def Wd.cells (w:Wd):List DV:=w.h.enc++(w.c.enc++[.sl .thread w.t,.sl .res w.log])
abbrev Wd.tv (w:Wd):TV:=.dagg w.cells
abbrev wdO (w:Wd) (bt bl:Nat):List CV:=(w.h.enc++w.c.enc).map CV.d++[.own bt,.own bl]
def Wd.zero:Wd:=⟨Hp.zero,⟨0,0,false,[],false,0,0,0,0,false⟩,[],[]⟩
def zT (w:Wd):List Lists:=w.t.map (·.cache)
def zQ (w:Wd):Bool:=decide (w.t.length<=4)&&(!(w.t.any fun t=>!decide t.mayT)&&(zbi w.c&&zq w.h (zT w)))
def zfd (w:Wd) (n:Int):Bool:=decide (0<=n/\n<(w.t.length:Int))
abbrev thW (w:Wd) (n:Int):Thread:=w.t.getD n.toNat default
def zru (w:Wd) (n:Int) (m:Mu):List Res:=if m.told=true then w.log++[{m.r with thread:=n}] else w.log
def zbP (w:Wd) (n:Int):Bool:=!(thW w n).live || (!zaS w.c (thW w n)&&decide ((thW w n).ops.length=0))
def stepW (w:Wd) (n:Int):Wd:=
 if zfd w n=false then w else if zbP w n=true then w
 else if zaS w.c (thW w n)=true then ⟨ansG w.h w.c (thW w n),ansC w.h w.c (thW w n),w.t.set n.toNat (ansT w.c (thW w n)),w.log⟩
 else ⟨(mutS w.h w.c (thW w n)).h,(mutS w.h w.c (thW w n)).c,w.t.set n.toNat (mutS w.h w.c (thW w n)).t,zru w n (mutS w.h w.c (thW w n))⟩
def zcA (w:Wd) (n:Int):Int:=if zfd w n=false then 3 else if zbP w n=true then 3 else 0
def colW (w:Wd):Wd:={w with h:=(zbN w.h w.c w.t).1,c:=(zbN w.h w.c w.t).2}
def startW (w:Wd) (m:Bool):Wd:=if zay w.c=0 then {w with c:=zbS w.c m} else w
def ze2 (w:Wd) (n:Int):Bool:=(thW w n).live || decide ((thW w n).ops.length=0)
def beginW (w:Wd) (n:Int):Wd:=if zfd w n=false then w else if ze2 w n=true then w else {w with t:=w.t.set n.toNat (beginT w.c (thW w n) w.t)}
def beginWE (w:Wd) (n:Int):Int:=if zfd w n=false then 3 else if ze2 w n=true then 4 else 0
def doW1 (w:Wd) (e:Pair):Wd:=
 if e.fst=0 then stepW w e.snd else if e.fst=1 then colW w else if e.fst=2 then startW w false else if e.fst=3 then startW w true else if e.fst=4 then beginW w e.snd else w
def doE1 (w:Wd) (e:Pair):Int:=
 if e.fst=0 then zcA w e.snd else if e.fst=1 then 0 else if e.fst=2 then zay w.c else if e.fst=3 then zay w.c else if e.fst=4 then beginWE w e.snd else 1
def doW (w:Wd) (e:Pair):Wd:=if zQ w=true then doW1 w e else w
def doWE (w:Wd) (e:Pair):Int:=if zQ w=true then doE1 w e else 1
def madeW (n:Int) (l:List (List Op)):Wd:=if newE n≠0 then Wd.zero else if l.any (fun x=>decide (4<l.length\/200<x.length)) then Wd.zero else ⟨newH n,Wd.zero.c,l.map fun o=>{Thread.zero with ops:=o},[]⟩
def zca (n:Int) (l:List (List Op)):Int:=if newE n≠0 then newE n else if l.any (fun x=>decide (4<l.length\/200<x.length)) then 2 else 0
structure Wd.Fit (w:Wd):Prop where
 small:w.h.small
 work:w.c.work.length<zk
 len:w.t.length<=4
 th:∀t∈w.t,t.ok/\t.cache.ok
 flat:(zn (zeL w.h (zT w))).length<=zk
 log:w.log.length<zk
def zal (w:Wd) (m:Bool):Wd:=doW w ⟨if m=true then 3 else 2,0⟩
def runW (w:Wd) (l:List Pair):Wd:=l.foldl doW w
theorem zn8 (w:Wd) {l:List Pair} {i:Nat} (h:i<l.length):runW w (l.take (i+1))=doW (runW w (l.take i)) (l.getD i default):=by
 unfold runW
 rw[List.take_add_one,List.getElem?_eq_getElem h,List.getD_eq_getElem?_getD,List.getElem?_eq_getElem h,List.foldl_append]
 rfl
def scW (g:Hp) (card seek u:Int):Int:=if 16+8*card+8<=u\/(16+8*card<=u/\seek<u) then (headH g u).n+2 else 0
def scA (g:Hp) (c:Col):Int:=if c.at_=0 then 0 else if headE g c.at_=0/\0<=c.field_/\c.field_<(headH g c.at_).n then (headH g c.at_).n-c.field_+1 else 1
def zfI (g:Hp) (c:Col):Int:=sumI (zu g) (scW g c.card c.seek)+3*((g.cards.length:Int)-c.card)+(if c.seek=0 then 0 else scA g c-1)
theorem zsy {g:Hp} {card seek u:Int} (hu:headE g u=0):0<=scW g card seek u:=by
 unfold scW
 have:=(zaj hu).2.1
 split<;>omega
theorem zma (g:Hp) (card seek:Int):0<=sumI (zu g) (scW g card seek):=zdC fun u hu=>zsy (zaa.1 hu)
theorem zlZ (g:Hp) {card seek card' seek' : Int} (h:∀u,(16+8*card'+8<=u\/(16+8*card'<=u/\seek'<u))->(16+8*card+8<=u\/(16+8*card<=u/\seek<u))):sumI (zu g) (scW g card' seek')<=sumI (zu g) (scW g card seek):=by
 refine zhz fun u hu=>?_
 have hn:=(zaj (zaa.1 hu)).2.1
 unfold scW
 by_cases k:(16+8*card'+8<=u\/(16+8*card'<=u/\seek'<u))
 ·rw[if_pos k,if_pos (h u k)];exact Int.le_refl _
 ·rw[if_neg k]
  split<;>omega
theorem zwQ (g:Hp) {card seek a:Int} (ha:headE g a=0) (h1:16+8*card<=a) (h2:a<16+8*card+8) (h3:seek<a):sumI (zu g) (scW g card a)+((headH g a).n+2)<=sumI (zu g) (scW g card seek):=by
 have hin:=zaa.2 ha
 have e:=zgN (zel g) (f:=scW g card seek) (h:=fun u=>if u=a then 0 else scW g card seek u) hin fun x _ hx=>if_neg hx
 have e1:scW g card seek a=(headH g a).n+2:=by unfold scW;rw[if_pos (.inr ⟨h1,h3⟩)]
 have e2:sumI (zu g) (scW g card a)<=sumI (zu g) (fun u=>if u=a then 0 else scW g card seek u):=by
  refine zhz fun u hu=>?_
  have hn:=(zaj (zaa.1 hu)).2.1
  unfold scW
  by_cases k:u=a
  ·rw[if_pos k,if_neg (by omega)];exact Int.le_refl _
  ·rw[if_neg k]
   split
   ·rw[if_pos (by omega)];exact Int.le_refl _
   ·split<;>omega
 simp only[if_true]at e
 omega
theorem zfB (g:Hp) (c:Col):(c.at_=0/\scA g c=0)\/(c.at_≠0/\1<=scA g c/\scA g c<=65):=by
 unfold scA
 by_cases h:c.at_=0
 ·exact .inl ⟨h,if_pos h⟩
 ·refine .inr ⟨h,?_⟩
  rw[if_neg h]
  split
  ·rename_i k
   have:=(zjV (zgt k.1).1).1.2
   omega
  ·omega
theorem zw2 {g k:Hp} (hu:zu k=zu g) (hn:∀u,(headH k u).n=(headH g u).n) (card seek:Int):sumI (zu k) (scW k card seek)=sumI (zu g) (scW g card seek):=by
 rw[hu]
 exact ziw fun u _=>by unfold scW;rw[hn]
theorem zu6 {g k:Hp} {c d:Col} (s:SStep g c k d) (hm:zx g []=true) (hp:c.phase=4) (h0:0<=c.card):(d.phase=4/\0<=d.card/\zfI k d+1<=zfI g c)\/(d.phase=5/\d.at_=0/\d.seek=0/\d.work=c.work):=by
 have q:=s.keep
 have same:∀card seek,sumI (zu k) (scW k card seek)=sumI (zu g) (scW g card seek):=zw2 q.used fun u=>(q.head u).2.2.1
 cases s
 case idle h=>exact absurd ⟨hm,hp,h0⟩ h
 case fin=>exact .inr ⟨rfl,rfl,rfl,rfl⟩
 case clean _ _ hc hs hd=>
  refine .inl ⟨hp,h0,?_⟩
  unfold zfI
  rw[same,q.clen]
  show sumI (zu g) (scW g c.card 1)+3*(_-c.card)+(if (1:Int)=0 then 0 else scA _ {c with seek:=1,met:=false,at_:=0,field_:=0}-1)+1<=_
  rw[if_neg (by decide),if_pos (by assumption)]
  have e:scA (zcO g c.card false) {c with seek:=1,met:=false,at_:=0,field_:=0}=0:=if_pos rfl
  have hm:=zlZ g (card:=c.card) (seek:=c.seek) (card':=c.card) (seek':=1) (by omega)
  omega
 case skip _ _ hc hs hd=>
  refine .inl ⟨hp,by show 0<=c.card+1;omega,?_⟩
  unfold zfI
  show sumI (zu g) (scW g (c.card+1) c.seek)+3*(_-(c.card+1))+(if c.seek=0 then 0 else _)+1<=_
  have hs:c.seek=0:=by assumption
  rw[if_pos hs,if_pos hs]
  have hm:=zlZ g (card:=c.card) (seek:=c.seek) (card':=c.card+1) (seek':=c.seek) (by omega)
  omega
 case lost _ _ hc hs ha hf=>
  refine .inl ⟨hp,h0,?_⟩
  unfold zfI
  show sumI (zu g) (scW g c.card c.seek)+3*(_-c.card)+(if c.seek=0 then 0 else scA g {c with at_:=0,field_:=0}-1)+1<=_
  rw[if_neg hs,if_neg hs]
  have e:scA g {c with at_:=0,field_:=0}=0:=if_pos rfl
  rcases zfB g c with⟨h,_⟩|⟨_,h,_⟩
  ·exact absurd h ha
  ·omega
 case last _ _ hc hs ha hE hf hl v hv=>
  obtain⟨e1,e2,e3,e4,e5,e6,e7⟩:=zi2 g c v
  refine .inl ⟨e1.trans hp,by show 0<=(zax g c v).2.card;rw[e7];exact h0,?_⟩
  unfold zfI
  rw[same,q.clen]
  show sumI (zu g) (scW g (zax g c v).2.card (zax g c v).2.seek)+3*(_-(zax g c v).2.card)+(if (zax g c v).2.seek=0 then 0 else scA (zax g c v).1 {(zax g c v).2 with at_:=0,field_:=0}-1)+1<=_
  rw[e6,e7,if_neg hs,if_neg hs]
  have e:scA (zax g c v).1 {(zax g c v).2 with at_:=0,field_:=0}=0:=if_pos rfl
  rcases zfB g c with⟨h,_⟩|⟨_,h,_⟩
  ·exact absurd h ha
  ·omega
 case more _ _ hc hs ha hE hf hl v hv=>
  obtain⟨e1,e2,e3,e4,e5,e6,e7⟩:=zi2 g c v
  refine .inl ⟨e1.trans hp,by show 0<=(zax g c v).2.card;rw[e7];exact h0,?_⟩
  unfold zfI
  rw[same,q.clen]
  show sumI (zu g) (scW g (zax g c v).2.card (zax g c v).2.seek)+3*(_-(zax g c v).2.card)+(if (zax g c v).2.seek=0 then 0 else scA (zax g c v).1 {(zax g c v).2 with field_:=c.field_+1}-1)+1<=_
  rw[e6,e7,if_neg hs,if_neg hs]
  have hn:(headH (zax g c v).1 c.at_).n=(headH g c.at_).n:=(q.head c.at_).2.2.1
  have hEk:headE (zax g c v).1 c.at_=0:=by rw[q.headE];exact hE
  have e:scA (zax g c v).1 {(zax g c v).2 with field_:=c.field_+1}=(headH g c.at_).n-(c.field_+1)+1:=by
   unfold scA
   show(if (zax g c v).2.at_=0 then _ else if headE _ (zax g c v).2.at_=0/\0<=c.field_+1/\c.field_+1<(headH _ (zax g c v).2.at_).n then (headH _ (zax g c v).2.at_).n-(c.field_+1)+1 else 1)=_
   rw[e4,if_neg ha,hn,if_pos ⟨hEk,by omega,by omega⟩]
  have e' : scA g c=(headH g c.at_).n-c.field_+1:=by
   unfold scA
   rw[if_neg ha,if_pos ⟨hE,hf,by omega⟩]
  omega
 case next _ _ hc hs ha a hn=>
  obtain⟨n1,n2,n3,n4⟩:=ztd hn
  obtain⟨m1,m2,m3⟩:=(zya h0 hc).1 n1
  refine .inl ⟨hp,h0,?_⟩
  have hne:a≠0:=by omega
  unfold zfI
  show sumI (zu g) (scW g c.card a)+3*(_-c.card)+(if a=0 then 0 else scA g {c with at_:=a,field_:=0,seek:=a}-1)+1<=_
  rw[if_neg hne,if_neg hs]
  have hnn:=(zaj m1).2.1
  have e:scA g {c with at_:=a,field_:=0,seek:=a}<=(headH g a).n+1:=by
   unfold scA
   show(if a=0 then _ else if headE g a=0/\(0:Int)<=0/\0<(headH g a).n then (headH g a).n-0+1 else 1)<=_
   rw[if_neg hne]
   split<;>omega
  have e' : scA g c=0:=if_pos ha
  have:=zwQ g (card:=c.card) m1 (by omega) (by omega) n2
  omega
 case done _ _ hc hs ha hn=>
  refine .inl ⟨hp,by show 0<=c.card+1;omega,?_⟩
  unfold zfI
  rw[same,q.clen]
  show sumI (zu g) (scW g (c.card+1) 0)+3*(_-(c.card+1))+(if (0:Int)=0 then 0 else _)+1<=_
  rw[if_pos rfl,if_neg hs]
  have e' : scA g c=0:=if_pos ha
  have hm:=zlZ g (card:=c.card) (seek:=c.seek) (card':=c.card+1) (seek':=0) (by omega)
  omega
theorem zjR {g:Hp} (hm:zx g []=true):2*((zu g).length:Int)<=(g.w.length:Int)/\2*zcV g<=(g.w.length:Int)/\sumI (zu g) (ze g.pages)<=(g.w.length:Int):=by
 obtain⟨_,hmp,hsl,_,_,h64⟩:=zl (zA hm)
 have hC:=zkD hmp
 have hrm:=zjY hmp
 have hU:((zu g).length:Int)<=zcV g:=by
  unfold zcV
  rw[zbp hm]
  have:=List.length_filter_le (fun a=>zf g a != 0) (cellStarts g.pages)
  omega
 have h2:sumI (zu g) (ze g.pages)<=sumI (cellStarts g.pages) (ze g.pages):=by
  rw[zbp hm]
  exact zkp _ fun x _=>zcn _ _
 unfold zcV at *
 omega
theorem ztH {g:Hp} {c:Col} (hm:zx g []=true) (h0:0<=c.card):zfI g c<=2*(g.w.length:Int)+64:=by
 obtain⟨u1,u2,u3⟩:=zjR hm
 obtain⟨_,hmp,hsl,hcl,_,h64⟩:=zl (zA hm)
 have h1:sumI (zu g) (scW g c.card c.seek)<=sumI (zu g) (ze g.pages)+((zu g).length:Int):=by
  have e:sumI (zu g) (ze g.pages)+((zu g).length:Int)=sumI (zu g) (fun x=>ze g.pages x+1):=by
   rw[zqd,zfQ]
   omega
  rw[e]
  refine zhz fun x hx=>?_
  have:=(zaj (zaa.1 hx)).2.2.1
  have:=(zaj (zaa.1 hx)).2.1
  unfold scW
  split<;>omega
 have h2:(if c.seek=0 then 0 else scA g c-1)<=64:=by
  split
  ·omega
  ·rcases zfB g c with⟨_,h⟩|⟨_,_,h⟩<;>omega
 unfold zfI
 omega
theorem zgu {g:Hp} {c:Col} (h:c.card<(g.cards.length:Int)):0<=zfI g c:=by
 have h1:=zma g c.card c.seek
 unfold zfI
 split
 ·omega
 ·rcases zfB g c with⟨_,h⟩|⟨_,h,_⟩<;>omega
def base (n:Int):Int:=n*n / 4+4*n+111
def phi (g:Hp) (c:Col):Int:=
 if c.phase<=0 then 0 else if c.phase<=3 then base (g.w.length:Int)+4-c.phase
 else if c.phase=4 then (if (g.cards.length:Int)<=c.card then 0 else zfI g c)+((g.w.length:Int)*(g.w.length:Int) / 4+41+((g.w.length:Int)+2))
 else if c.phase=5 then pot g c / 5+((g.w.length:Int)+2)
 else (zjm g c:Int)
theorem zt9 {g:Hp} (hm:zx g []=true) (c:Col):(zjm g c:Int)<=(g.w.length:Int)+2:=by
 obtain⟨u1,u2,u3⟩:=zjR hm
 have:zc6 g c.seek<=(cellStarts g.pages).length:=List.length_filter_le _ _
 unfold zcV at u2
 unfold zjm
 split<;>omega
structure Goes (g:Hp) (c:Col):Prop where
 t4:c.phase=4->0<=c.card
 t5:c.phase=5->TA g c
theorem zze {g k:Hp} {c d:Col} (s:SwStep g c k d) (hm:zx g []=true) (hp:c.phase=6):(d.phase=6/\zjm k d+1<=zjm g c)\/d.phase=0:=by
 cases s with
 |idle hn=>exact absurd ⟨hm,hp⟩ hn
 |pass _ _ hmet=>
  refine .inl ⟨hp,?_⟩
  unfold zjm
  rw[hmet]
  show 2*zc6 g c.seek+0+1+1<=_
  simp
 |old _ _ hmet=>
  refine .inl ⟨hp,?_⟩
  unfold zjm
  rw[hmet]
  show 2*zc6 g c.seek+0+1+1<=_
  simp
 |free _ _ hmet hn hl hq hf h0=>
  have f:=zny hm h0
  have:=zgX hn hl f.starts
  refine .inl ⟨hp,?_⟩
  unfold zjm
  rw[hmet]
  show 2*zc6 (zdU g (zM g.pages c.seek)) (zM g.pages c.seek)+0+1+1<=2*zc6 g c.seek+0+1
  unfold zc6 at this ⊢
  omega
 |dirty _ _ hmet hn hl hq hf h0 hc=>
  have:=zgX hn hl (List.Sublist.refl _)
  refine .inl ⟨hp,?_⟩
  unfold zjm
  rw[hmet]
  show 2*zc6 (zcO g _ true) (zM g.pages c.seek)+1+1+1<=_
  simp only[Bool.false_eq_true,if_false]
  unfold zc6 at this ⊢
  show 2*((cellStarts g.pages).filter _).length+1+1+1<=_
  omega
 |stay _ _ hmet hn hl hq hf=>
  have:=zgX hn hl (List.Sublist.refl _)
  refine .inl ⟨hp,?_⟩
  unfold zjm
  rw[hmet]
  show 2*zc6 g (zM g.pages c.seek)+0+1+1<=2*zc6 g c.seek+0+1
  unfold zc6 at this ⊢
  omega
 |done=>exact .inr rfl
theorem zwT {g k:Hp} {c d:Col} {l:List Thread} (s:CStep g c l k d) (hc:zbi c=true) (hm:zx g []=true) (h0:c.phase≠0) (ha:c.phase<=3->zir c l=true) (ht:Goes g c) :
  (d.phase=0\/phi k d+1<=phi g c)/\Goes k d:=by
 have hwl:=s.wlen
 obtain⟨m1,m2,m3,m4,m5,m6⟩:=zeT hc
 have hsq:0<=(g.w.length:Int)*(g.w.length:Int):=Int.mul_nonneg (by omega) (by omega)
 cases s
 case idle h=>exact absurd ⟨hc,h0⟩ h
 case stay h1 h3 hb=>rw[ha h3]at hb;cases hb
 case next h1 h3 hb=>
  by_cases hp:c.phase=3
  ·have e:zgj c={c with phase:=if c.major=true then 5 else 4,at_:=0,field_:=0,seek:=0,card:=0,met:=false}:=by unfold zgj;rw[if_pos hp]
   have e3:phi g c=base (g.w.length:Int)+1:=by unfold phi;rw[if_neg (by omega),if_pos (by omega)];omega
   rw[e,e3]
   cases hj:c.major with
   |true=>
    refine⟨.inr ?_,⟨fun h=>absurd h (by show ¬(if true=true then (5:Int) else 4)=4;decide),fun _=>zd2 rfl⟩⟩
    have hs:=zj0 (g:=g) (c:=⟨if true=true then 5 else 4,c.epoch,true,c.work,c.over,0,0,0,0,false⟩) hm rfl rfl m6
    have e5:phi g ⟨if true=true then 5 else 4,c.epoch,true,c.work,c.over,0,0,0,0,false⟩=pot g ⟨if true=true then 5 else 4,c.epoch,true,c.work,c.over,0,0,0,0,false⟩ / 5+((g.w.length:Int)+2):=rfl
    rw[e5]
    unfold base
    omega
   |false=>
    refine⟨.inr ?_,⟨fun _=>Int.le_refl _,fun h=>absurd h (by show ¬(if false=true then (5:Int) else 4)=5;decide)⟩⟩
    have hs:=ztH (g:=g) (c:=⟨if false=true then 5 else 4,c.epoch,false,c.work,c.over,0,0,0,0,false⟩) hm (Int.le_refl _)
    have e5:phi g ⟨if false=true then 5 else 4,c.epoch,false,c.work,c.over,0,0,0,0,false⟩=(if (g.cards.length:Int)<=0 then 0 else zfI g ⟨if false=true then 5 else 4,c.epoch,false,c.work,c.over,0,0,0,0,false⟩)+((g.w.length:Int)*(g.w.length:Int) / 4+41+((g.w.length:Int)+2)):=rfl
    rw[e5]
    unfold base
    split<;>omega
  ·have e:zgj c={c with phase:=c.phase+1}:=by unfold zgj;rw[if_neg hp]
   rw[e]
   refine⟨.inr ?_,⟨fun h=>absurd h (by show ¬c.phase+1=4;omega),fun h=>absurd h (by show ¬c.phase+1=5;omega)⟩⟩
   have e1:phi g c=base (g.w.length:Int)+4-c.phase:=by unfold phi;rw[if_neg (by omega),if_pos (by omega)]
   have e2:phi g {c with phase:=c.phase+1}=base (g.w.length:Int)+4-(c.phase+1):=by
    unfold phi
    rw[if_neg (by show ¬c.phase+1<=0;omega),if_pos (by show c.phase+1<=3;omega)]
   omega
 case scan hp s=>
  have e4:phi g c=(if (g.cards.length:Int)<=c.card then 0 else zfI g c)+((g.w.length:Int)*(g.w.length:Int) / 4+41+((g.w.length:Int)+2)):=by
   unfold phi;rw[if_neg (by omega),if_neg (by omega),if_pos hp]
  have hcl:=s.keep.clen
  have hmk:zx k []=true:=by rw[s.keep.may];exact hm
  rcases zu6 s hm hp (ht.t4 hp) with⟨p1,p2,p3⟩|⟨p1,p2,p3,p4⟩
  ·refine⟨.inr ?_,⟨fun _=>p2,fun h=>absurd h (by omega)⟩⟩
   have e:phi k d=(if (k.cards.length:Int)<=d.card then 0 else zfI k d)+((k.w.length:Int)*(k.w.length:Int) / 4+41+((k.w.length:Int)+2)):=by
    unfold phi;rw[if_neg (by omega),if_neg (by omega),if_pos p1]
   rw[e,e4,hwl,hcl]
   have hlt:c.card<(g.cards.length:Int):=by
    apply Classical.byContradiction
    intro hge
    cases s
    case idle h=>exact h ⟨hm,hp,ht.t4 hp⟩
    case fin=>exact absurd p1 (by show ¬(5:Int)=4;decide)
    all_goals omega
   have hge:1<=zfI g c:=by
    by_cases hd:d.card<(k.cards.length:Int)
    ·have:=zgu hd;omega
    ·have h1:=zma g c.card c.seek
     unfold zfI
     split
     ·omega
     ·rcases zfB g c with⟨_,h⟩|⟨_,h,_⟩<;>omega
   rw[if_neg (show ¬(g.cards.length:Int)<=c.card by omega)]
   split<;>omega
  ·refine⟨.inr ?_,⟨fun h=>absurd h (by omega),fun _=>zd2 p2⟩⟩
   have e:phi k d=pot k d / 5+((k.w.length:Int)+2):=by
    unfold phi;rw[if_neg (by omega),if_neg (by omega),if_neg (by omega),if_pos p1]
   have hs:=zj0 hmk p2 p3 (by rw[p4];exact m6)
   rw[hwl]at hs e
   have hb:0<=(if (g.cards.length:Int)<=c.card then 0 else zfI g c):=by
    split
    ·exact Int.le_refl _
    ·exact zgu (by omega)
   rw[e,e4]
   omega
 case trace hp s=>
  have e5:phi g c=pot g c / 5+((g.w.length:Int)+2):=by
   unfold phi;rw[if_neg (by omega),if_neg (by omega),if_neg (by omega),if_pos hp]
  have hmk:zx k []=true:=by rw[s.marks.may];exact hm
  have htk:=s.ta (ht.t5 hp)
  rcases s.col.2.2 with p|⟨_,p⟩
  ·have hd5:d.phase=5:=by omega
   have:=zvS s hm hp (ht.t5 hp) hd5
   refine⟨.inr ?_,⟨fun h=>absurd h (by omega),fun _=>htk⟩⟩
   have e:phi k d=pot k d / 5+((k.w.length:Int)+2):=by
    unfold phi;rw[if_neg (by omega),if_neg (by omega),if_neg (by omega),if_pos hd5]
   rw[e,e5,hwl]
   omega
  ·refine⟨.inr ?_,⟨fun h=>absurd h (by omega),fun h=>absurd h (by omega)⟩⟩
   have e:phi k d=(zjm k d:Int):=by
    unfold phi;rw[if_neg (by omega),if_neg (by omega),if_neg (by omega),if_neg (by omega)]
   have h1:=zt9 hmk d
   have h2:=zt6 (ht.t5 hp)
   rw[hwl]at h1
   rw[e,e5]
   omega
 case sweep hp s=>
  have e6:phi g c=(zjm g c:Int):=by
   unfold phi;rw[if_neg (by omega),if_neg (by omega),if_neg (by omega),if_neg (by omega)]
  rcases zze s hm hp with⟨p1,p2⟩|p
  ·refine⟨.inr ?_,⟨fun h=>absurd h (by omega),fun h=>absurd h (by omega)⟩⟩
   have e:phi k d=(zjm k d:Int):=by
    unfold phi;rw[if_neg (by omega),if_neg (by omega),if_neg (by omega),if_neg (by omega)]
   rw[e,e6]
   omega
  ·exact⟨.inl p,⟨fun h=>absurd h (by omega),fun h=>absurd h (by omega)⟩⟩
theorem zy1 {g:Hp} {c:Col} (hc:zbi c=true) (hm:zx g []=true) (h:c.phase<=3):phi g c<=(g.w.length:Int)*(g.w.length:Int) / 4+6*(g.w.length:Int)+100:=by
 obtain⟨hw,_⟩:=zl (zA hm)
 have h16:16<=(g.w.length:Int):=by have:=of_decide_eq_true hw;omega
 have hsq:0<=(g.w.length:Int)*(g.w.length:Int):=Int.mul_nonneg (by omega) (by omega)
 unfold phi
 rw[if_pos h]
 obtain⟨m1,_⟩:=zeT hc
 unfold base
 split<;>omega
open Go.Proofs Go.Proofs.YtlankjlnnimdoaaGreatDoor
theorem Marks.light {g k:Hp} (h:Marks g k) (hl:g.light):k.light:=by unfold Hp.light;rw[h.free];exact hl
theorem Marks.small {g k:Hp} (h:Marks g k) (hs:g.small):k.small:=by unfold Hp.small;rw[h.free,h.pages,h.cards,h.len];exact hs
theorem zsN (w:List Int) (a:Int) (hw:zbo w=true) (ha:16<=a/\a<16+w.length):Spec X 236 [] [.c (.d (.sl .int w)),.int a,.int 1] (Ret [] (.tup [.c (.d (.sl .int ((w.drop (a-16).toNat).take 1))),.int 0])):=by
 refine zGO X_ok Tryz.f236 fun hb hH=>⟨rfl,?_⟩
 show ACall ..
 refine za (zfA w) rfl ?_
 rw[hw]
 show ABr (!true) _ _
 refine zNO (by decide) ?_
 refine zNO (by decide) ?_
 have h1:w.length<=1024:=by have:=of_decide_eq_true hw;omega
 have e1:IntKind.i64.wrap (a-16)=a-16:=zB (by omega) (by omega)
 have e2:IntKind.i64.wrap ((w.length:Int)-(a-16))=w.length-(a-16):=zB (by omega) (by omega)
 show ABr (bif decide ((1:Int)>0) then (bif (bif decide (a<16) then true else decide (IntKind.i64.wrap (a-16)>=(w.length:Int))) then true else decide ((1:Int)>IntKind.i64.wrap ((w.length:Int)-IntKind.i64.wrap (a-16)))) else false) _ _
 rw[e1,e2]
 refine⟨fun h=>?_,fun _=>?_⟩
 ·exfalso
  have g1:decide (a<16)=false:=decide_eq_false (by omega)
  have g2:decide (a-16>=(w.length:Int))=false:=decide_eq_false (by omega)
  have g3:decide ((1:Int)>(w.length:Int)-(a-16))=false:=decide_eq_false (by omega)
  rw[g1,g2,g3]at h
  exact absurd h (by decide)
 ·refine zNO (by decide) ?_
  show AOb ((0:Int)<=IntKind.i64.wrap (a-16)/\IntKind.i64.wrap (a-16)<=(w.length:Int)) _
  rw[e1]
  refine⟨by omega,?_⟩
  have hdl:(w.drop (a-16).toNat).length=w.length-(a-16).toNat:=List.length_drop
  show AOb ((0:Int)<=1/\(1:Int)<=1/\(1:Int)<=(((w.drop (a-16).toNat).length:Nat):Int)) _
  refine⟨by omega,?_⟩
  show ARet ..
  exact zi rfl ⟨rfl,rfl⟩
theorem zhp (w:List Int) (a:Int) (hw:zbo w=true) (ha:16<=a/\a<16+w.length):Spec X 194 [] [.c (.d (.sl .int w)),.int a] (Ret [] (.tup [.int (at0 w (a-16).toNat),.int 0])):=by
 refine zGO X_ok Tryz.f194 fun hb hH=>⟨rfl,?_⟩
 show ACall ..
 refine za (zsN w a hw ha) rfl ?_
 have hdl:((w.drop (a-16).toNat).take 1).length=1:=by rw[List.length_take,List.length_drop];omega
 refine zNO (by decide) ?_
 show AOb ((0:Int)<=0/\(0:Int)<((((w.drop (a-16).toNat).take 1).length:Nat):Int)) _
 refine⟨by omega,?_⟩
 have hv:((w.drop (a-16).toNat).take 1).getD 0 default=at0 w (a-16).toNat:=by
  unfold at0
  simp[List.getD_eq_getElem?_getD]
 show ARet ..
 exact⟨[],[],[.int (at0 w (a-16).toNat),.int 0],.cons _ _ _ _ (.int_eq hv) (.cons _ _ _ _ .same .nil),.nil,rfl,rfl,rfl⟩
def wkV (g:Hp) (c:Col):List CV:=(g.enc++c.enc).map .d
theorem zuJ (g:Hp) (c:Col) (hs:g.small) (hw:c.work.length<=zk):Spec X 205 [] [g.tv,c.tv] (Ret [(0,.vars (wkV g c))] (.c (.ptr 0 0 0))):=by
 refine zGO X_ok Tryz.f205 fun hb hH=>⟨rfl,?_⟩
 obtain⟨h1,h2,h3,h4,h5,h6⟩:=hs
 show ADCall ..
 refine .mk _ _ (zd g.w h1) rfl ?_
 show ADCall ..
 refine .mk _ _ (zac g.pages h2) rfl ?_
 show ADCall ..
 refine .mk _ _ (zah g.cards h3) rfl ?_
 show ∃n,_
 refine⟨4,?_⟩
 show ALoop ..
 refine .next ?_
 refine zYE (by decide) ?_
 show AOb ..
 refine⟨by decide,?_⟩
 show ACall ..
 refine za (zd g.free.l0 h4) rfl ?_
 show AOb ..
 refine⟨by decide,?_⟩
 show ALoop ..
 refine .next ?_
 refine zYE (by decide) ?_
 show AOb ..
 refine⟨by decide,?_⟩
 show ACall ..
 refine za (zd g.free.l1 h5) rfl ?_
 show AOb ..
 refine⟨by decide,?_⟩
 show ALoop ..
 refine .next ?_
 refine zYE (by decide) ?_
 show AOb ..
 refine⟨by decide,?_⟩
 show ACall ..
 refine za (zd g.free.l2 h6) rfl ?_
 show AOb ..
 refine⟨by decide,?_⟩
 show ALoop ..
 refine .next ?_
 refine zNO (by decide) ?_
 show ACall ..
 refine za (zd c.work hw) rfl ?_
 show ARet ..
 exact⟨[(_,0)],[(0,.vars (wkV g c))],[.c (.ptr 0 0 0)],.cons _ _ _ _ (.c _ _ (.ptr1 _ _ _ _)) .nil,.old 0 _ _ _ _ rfl rfl (.vars _ _ (zb rfl)) .nil,rfl,rfl,rfl⟩
theorem zdL (g:Hp) (c:Col) (a:Int):Spec X 206 [(16,.vars (wkV g c))] [.c (.ptr 16 0 0),.int a] (fun H r=>H=[(16,.vars (wkV g {c with at_:=a,field_:=0}))]/\r = .tup []):=by
 refine zGO X_ok Tryz.f206 fun hb hH=>⟨rfl,?_⟩
 show ARet ..
 exact⟨[(16,16)],[(16,.vars (wkV g {c with at_:=a,field_:=0}))],[],.nil,.old 16 16 _ _ _ rfl rfl (.vars _ _ (zb rfl)) .nil,rfl,rfl,rfl⟩
theorem zrh (g:Hp) (c:Col) (a:Int) (hl:g.light):Spec X 243 [] [.c (.d (.rp (g.enc++c.enc))),.int a] (Ret [] (.bo (ziA g a))):=by
 refine zGO X_ok Tryz.f243 fun hb hH=>⟨rfl,?_⟩
 show ACall ..
 refine za (zaJ g a hl) rfl ?_
 show ARet ..
 refine zt (x:=bif decide (headE g a=0) then !(headH g a).old else false) ?_ ⟨rfl,rfl⟩
 unfold ziA
 cases decide (headE g a=0)<;>rfl
theorem zsW (g:Hp) (c:Col):Spec X 245 [] [.c (.d (.rp (g.enc++c.enc)))] (Ret [] (.int (IntKind.i64.wrap (16+IntKind.i64.wrap (8*c.card))))):=by
 refine zGO X_ok Tryz.f245 fun hb hH=>⟨rfl,?_⟩
 show ARet ..
 exact zi rfl ⟨rfl,rfl⟩
theorem zxr {g:Hp} (hm:zx g []=true) {n:Int} (h0:0<=n) (hc:n<(g.cards.length:Int)):IntKind.i64.wrap (n+1)=n+1:=by
 obtain⟨_,_,_,h4,_,h64⟩:=zl (zA hm)
 exact zB (by omega) (by omega)
theorem zvA {g:Hp} (hm:zx g []=true) {n:Int} (h0:0<=n) (hc:n<(g.cards.length:Int)):zcy g n=zcO g n false:=by
 apply zrG
 unfold zfe
 rw[hm,decide_eq_true ⟨h0,hc⟩]
 rfl
theorem zqB (g:Hp) (c:Col) (hl:g.light) (hm:zx g []=true) (h0:0<=c.card) (hc:c.card<(g.cards.length:Int)):Spec X 207 [(16,.vars (wkV g c))] [.c (.ptr 16 0 0)] (fun H r=>H=[(16,.vars (wkV (zpm g c).1 (zpm g c).2))]/\r = .tup []):=by
 refine zGO X_ok Tryz.f207 fun hb hH=>⟨rfl,?_⟩
 show AOb ((0:Int)<=c.card/\c.card<(g.cards.length:Int)) _
 refine⟨⟨h0,hc⟩,?_⟩
 unfold zpm
 show ABr (!g.cards.getD c.card.toNat false) _ _
 cases hd:g.cards.getD c.card.toNat false with
 |false=>
  rw[if_neg (by decide)]
  refine zYE (by decide) ?_
  have wc:=zxr hm h0 hc
  show ARet ..
  exact⟨[(16,16)],[(16,.vars (wkV g {c with card:=c.card+1}))],[],.nil,.old 16 16 _ _ _ rfl rfl (.vars _ _ (by repeat' first|exact .nil|refine .cons _ _ _ _ ?_ ?_|exact .d _|exact .int_eq wc)) .nil,rfl,rfl,rfl⟩
 |true=>
  rw[if_pos rfl,←zvA hm h0 hc]
  refine zNO (by decide) ?_
  show ADCall ..
  refine .mk _ _ (zrN g c.card hl) rfl ?_
  show ACall ..
  refine .hand [(16,16)] [(16,.vars (wkV (zcy g c.card) {c with seek:=1,met:=false}))] [.c (.ptr 16 0 0),.int 0] _ (.cons _ _ _ _ (.c _ _ (.ptr _ _ _ _ rfl)) (.cons _ _ _ _ .same .nil)) (.old 16 16 _ _ _ rfl rfl (.vars _ _ (zb rfl)) .nil) rfl (zdL (zcy g c.card) {c with seek:=1,met:=false} 0) ?_
  rintro H r ⟨rfl,rfl⟩ _ _
  refine⟨rfl,.inl rfl,?_⟩
  show ARet ..
  exact⟨[(16,16)],[(16,.vars (wkV (zcy g c.card) {c with seek:=1,met:=false,at_:=0,field_:=0}))],[],.nil,.old 16 16 _ _ _ rfl rfl (.vars _ _ (by repeat' first|exact .nil|refine .cons _ _ _ _ ?_ ?_|exact .d _|exact .int_eq rfl)) .nil,rfl,rfl,rfl⟩
set_option maxRecDepth 60000 in
set_option maxHeartbeats 2000000 in
theorem zpr (g:Hp) (c:Col) (hl:g.light) (hs:g.small) (hk:c.work.length<zk):Spec X 208 [(16,.vars (wkV g c))] [.c (.ptr 16 0 0)] (fun H r=>H=[(16,.vars (wkV (zpG g c).1 (zpG g c).2))]/\r = .tup []):=by
 refine zGO X_ok Tryz.f208 fun hb hH=>⟨rfl,?_⟩
 show ADCall ..
 refine .mk _ _ (zaJ g c.at_ hl) rfl ?_
 unfold zpG
 by_cases hE:headE g c.at_=0
 ·show ABr (!decide (headE g c.at_=0)) _ _
  rw[decide_eq_true hE]
  refine zNO (by decide) ?_
  by_cases hf:c.field_<0
  ·show ABr (decide (c.field_<0)) _ _
   rw[decide_eq_true hf,if_pos (.inr (.inl hf))]
   refine zYE (by decide) ?_
   refine zYE (by decide) ?_
   show ACall ..
   refine .hand [(16,16)] [(16,.vars (wkV g c))] [.c (.ptr 16 0 0),.int 0] _ (.cons _ _ _ _ (.c _ _ (.ptr _ _ _ _ rfl)) (.cons _ _ _ _ .same .nil)) (.old 16 16 _ _ _ rfl rfl (.vars _ _ (zb rfl)) .nil) rfl (zdL g c 0) ?_
   rintro H r ⟨rfl,rfl⟩ _ _
   refine⟨rfl,.inl rfl,?_⟩
   show ARet ..
   exact⟨[(16,16)],[(16,.vars (wkV g {c with at_:=0,field_:=0}))],[],.nil,.old 16 16 _ _ _ rfl rfl (.vars _ _ (by repeat' first|exact .nil|refine .cons _ _ _ _ ?_ ?_|exact .d _|exact .int_eq rfl)) .nil,rfl,rfl,rfl⟩
  ·show ABr (decide (c.field_<0)) _ _
   rw[decide_eq_false hf]
   refine zNO (by decide) ?_
   by_cases hn:(headH g c.at_).n<=c.field_
   ·show ABr (decide (c.field_>=(headH g c.at_).n)) _ _
    rw[decide_eq_true (show c.field_>=(headH g c.at_).n from hn),if_pos (.inr (.inr hn))]
    refine zYE (by decide) ?_
    show ACall ..
    refine .hand [(16,16)] [(16,.vars (wkV g c))] [.c (.ptr 16 0 0),.int 0] _ (.cons _ _ _ _ (.c _ _ (.ptr _ _ _ _ rfl)) (.cons _ _ _ _ .same .nil)) (.old 16 16 _ _ _ rfl rfl (.vars _ _ (zb rfl)) .nil) rfl (zdL g c 0) ?_
    rintro H r ⟨rfl,rfl⟩ _ _
    refine⟨rfl,.inl rfl,?_⟩
    show ARet ..
    exact⟨[(16,16)],[(16,.vars (wkV g {c with at_:=0,field_:=0}))],[],.nil,.old 16 16 _ _ _ rfl rfl (.vars _ _ (by repeat' first|exact .nil|refine .cons _ _ _ _ ?_ ?_|exact .d _|exact .int_eq rfl)) .nil,rfl,rfl,rfl⟩
   ·show ABr (decide (c.field_>=(headH g c.at_).n)) _ _
    rw[decide_eq_false (show ¬c.field_>=(headH g c.at_).n from hn),if_neg (fun k=>by rcases k with k|k|k;exact k hE;exact hf k;exact hn k)]
    refine zNO (by decide) ?_
    have h0:0<=c.field_:=by omega
    obtain⟨hm,hr,_⟩:=zU hE
    obtain⟨hmw,_,hlen,_,_,h64⟩:=zl (zA hm)
    obtain⟨⟨a1,a2⟩,_⟩:=zfo (f:=c.field_+1) hE (by omega) (by omega)
    have ha16:=(zaL (h:=g) hr).1
    have w1:IntKind.i64.wrap (c.at_+1)=c.at_+1:=zB (by omega) (by omega)
    have w2:IntKind.i64.wrap (c.at_+1+c.field_)=c.at_+1+c.field_:=zB (by omega) (by omega)
    have w3:IntKind.i64.wrap (c.field_+1)=c.field_+1:=zB (by omega) (by omega)
    have hv:at0 g.w (IntKind.i64.wrap (IntKind.i64.wrap (c.at_+1)+c.field_)-16).toNat=wordOf g (c.at_+1+c.field_):=by
     rw[w1,w2]
     unfold wordOf zf
     rw[if_pos ⟨hmw,by omega,by omega⟩]
    generalize wordOf g (c.at_+1+c.field_)=v at hv
    show ADCall ..
    refine .mk _ _ (zhp g.w (IntKind.i64.wrap (IntKind.i64.wrap (c.at_+1)+c.field_)) hmw (by rw[w1,w2];omega)) rfl ?_
    rw[hv]
    show ACall ..
    refine za (zrh g c v hl) rfl ?_
    cases hy:ziA g v with
    |true=>
     have e1:zax g c v=(zH g c v,{zG g c v with met:=true}):=by unfold zax;rw[if_pos hy]
     rw[e1]
     refine zYE (by decide) ?_
     show ADCall ..
     refine .mk _ _ (zcx g c v hl hs hk) rfl ?_
     have sm:=zY g c v
     have ef:IntKind.i64.wrap ((zG g c v).field_+1)=c.field_+1:=by rw[sm.field_,w3]
     show ABr (decide (IntKind.i64.wrap ((zG g c v).field_+1)=(headH g c.at_).n)) _ _
     rw[ef]
     by_cases hl2:c.field_+1=(headH g c.at_).n
     ·rw[if_pos hl2,decide_eq_true hl2]
      refine zYE (by decide) ?_
      show ACall ..
      refine .hand [(16,16)] [(16,.vars (wkV (zH g c v) {zG g c v with met:=true,field_:=c.field_+1}))] [.c (.ptr 16 0 0),.int 0] _ (.cons _ _ _ _ (.c _ _ (.ptr _ _ _ _ rfl)) (.cons _ _ _ _ .same .nil)) (.old 16 16 _ _ _ rfl rfl (.vars _ _ (zb rfl)) .nil) rfl (zdL (zH g c v) {zG g c v with met:=true,field_:=c.field_+1} 0) ?_
      rintro H r ⟨rfl,rfl⟩ _ _
      refine⟨rfl,.inl rfl,?_⟩
      show ARet ..
      exact⟨[(16,16)],[(16,.vars (wkV (zH g c v) {zG g c v with met:=true,at_:=0,field_:=0}))],[],.nil,.old 16 16 _ _ _ rfl rfl (.vars _ _ (by repeat' first|exact .nil|refine .cons _ _ _ _ ?_ ?_|exact .d _|exact .int_eq rfl)) .nil,rfl,rfl,rfl⟩
     ·rw[if_neg hl2,decide_eq_false hl2]
      refine zNO (by decide) ?_
      show ARet ..
      exact⟨[(16,16)],[(16,.vars (wkV (zH g c v) {zG g c v with met:=true,field_:=c.field_+1}))],[],.nil,.old 16 16 _ _ _ rfl rfl (.vars _ _ (by repeat' first|exact .nil|refine .cons _ _ _ _ ?_ ?_|exact .d _|exact .int_eq rfl)) .nil,rfl,rfl,rfl⟩
    |false=>
     have e1:zax g c v=(g,c):=by unfold zax;rw[if_neg (by rw[hy];decide)]
     rw[e1]
     refine zNO (by decide) ?_
     show ABr (decide (IntKind.i64.wrap (c.field_+1)=(headH g c.at_).n)) _ _
     rw[w3]
     by_cases hl2:c.field_+1=(headH g c.at_).n
     ·rw[if_pos hl2,decide_eq_true hl2]
      refine zYE (by decide) ?_
      show ACall ..
      refine .hand [(16,16)] [(16,.vars (wkV g {c with field_:=c.field_+1}))] [.c (.ptr 16 0 0),.int 0] _ (.cons _ _ _ _ (.c _ _ (.ptr _ _ _ _ rfl)) (.cons _ _ _ _ .same .nil)) (.old 16 16 _ _ _ rfl rfl (.vars _ _ (zb rfl)) .nil) rfl (zdL g {c with field_:=c.field_+1} 0) ?_
      rintro H r ⟨rfl,rfl⟩ _ _
      refine⟨rfl,.inl rfl,?_⟩
      show ARet ..
      exact⟨[(16,16)],[(16,.vars (wkV g {c with at_:=0,field_:=0}))],[],.nil,.old 16 16 _ _ _ rfl rfl (.vars _ _ (by repeat' first|exact .nil|refine .cons _ _ _ _ ?_ ?_|exact .d _|exact .int_eq rfl)) .nil,rfl,rfl,rfl⟩
     ·rw[if_neg hl2,decide_eq_false hl2]
      refine zNO (by decide) ?_
      show ARet ..
      exact⟨[(16,16)],[(16,.vars (wkV g {c with field_:=c.field_+1}))],[],.nil,.old 16 16 _ _ _ rfl rfl (.vars _ _ (by repeat' first|exact .nil|refine .cons _ _ _ _ ?_ ?_|exact .d _|exact .int_eq rfl)) .nil,rfl,rfl,rfl⟩
 ·show ABr (!decide (headE g c.at_=0)) _ _
  rw[decide_eq_false hE,if_pos (.inl hE)]
  refine zYE (by decide) ?_
  conv=>whnf
  refine⟨fun _=>?_,fun h=>absurd h (by decide)⟩
  refine zYE (by decide) ?_
  show ACall ..
  refine .hand [(16,16)] [(16,.vars (wkV g c))] [.c (.ptr 16 0 0),.int 0] _ (.cons _ _ _ _ (.c _ _ (.ptr _ _ _ _ rfl)) (.cons _ _ _ _ .same .nil)) (.old 16 16 _ _ _ rfl rfl (.vars _ _ (zb rfl)) .nil) rfl (zdL g c 0) ?_
  rintro H r ⟨rfl,rfl⟩ _ _
  refine⟨rfl,.inl rfl,?_⟩
  show ARet ..
  exact⟨[(16,16)],[(16,.vars (wkV g {c with at_:=0,field_:=0}))],[],.nil,.old 16 16 _ _ _ rfl rfl (.vars _ _ (by repeat' first|exact .nil|refine .cons _ _ _ _ ?_ ?_|exact .d _|exact .int_eq rfl)) .nil,rfl,rfl,rfl⟩
theorem zzi {g:Hp} (hm:zx g []=true) {n:Int} (h0:0<=n) (hc:n<(g.cards.length:Int)):IntKind.i64.wrap (16+IntKind.i64.wrap (8*n))=16+8*n/\zaY g (16+8*n)=zcO g n true:=by
 obtain⟨_,_,h3,h4,_,h64⟩:=zl (zA hm)
 have e1:IntKind.i64.wrap (8*n)=8*n:=zB (by omega) (by omega)
 have e2:IntKind.i64.wrap (16+8*n)=16+8*n:=zB (by omega) (by omega)
 have h0':=zfw (a:=16+8*n) hm ⟨by omega,by omega⟩
 refine⟨by rw[e1,e2],?_⟩
 rw[zlF h0',zig h0']
 congr 1
 omega
theorem zvm (g:Hp) (c:Col) (hl:g.light) (hm:zx g []=true) (h0:0<=c.card) (hc:c.card<(g.cards.length:Int)):Spec X 210 [(16,.vars (wkV g c))] [.c (.ptr 16 0 0)] (fun H r=>H=[(16,.vars (wkV (ztT g c).1 (ztT g c).2))]/\r = .tup []):=by
 refine zGO X_ok Tryz.f210 fun hb hH=>⟨rfl,?_⟩
 have wc:=zxr hm h0 hc
 obtain⟨wa,wd⟩:=zzi hm h0 hc
 unfold ztT
 cases hd:c.met with
 |true=>
  rw[if_pos rfl,←wd]
  show ABr ..
  refine⟨fun _=>?_,fun h=>absurd h (by simp[hd])⟩
  show ADCall ..
  refine .mk _ _ (zsW g c) rfl ?_
  rw[wa]
  show ADCall ..
  refine .mk _ _ (zip g (16+8*c.card) hl (by obtain⟨_,_,h3,h4,_,h64⟩:=zl (zA hm);omega)) rfl ?_
  show ARet ..
  exact⟨[(16,16)],[(16,.vars (wkV (zaY g (16+8*c.card)) {c with card:=c.card+1,seek:=0,met:=false}))],[],.nil,.old 16 16 _ _ _ rfl rfl (.vars _ _ (by repeat' first|exact .nil|refine .cons _ _ _ _ ?_ ?_|exact .d _|exact .int_eq wc)) .nil,rfl,rfl,rfl⟩
 |false=>
  rw[if_neg (by decide)]
  show ABr ..
  refine⟨fun h=>absurd h (by simp[hd]),fun _=>?_⟩
  show ARet ..
  exact⟨[(16,16)],[(16,.vars (wkV g {c with card:=c.card+1,seek:=0,met:=false}))],[],.nil,.old 16 16 _ _ _ rfl rfl (.vars _ _ (by repeat' first|exact .nil|refine .cons _ _ _ _ ?_ ?_|exact .d _|exact .int_eq wc)) .nil,rfl,rfl,rfl⟩
set_option maxRecDepth 60000 in
set_option maxHeartbeats 2000000 in
theorem zlu (g:Hp) (c:Col) (hl:g.light) (hs:g.small) (hk:c.work.length<zk):Spec X 162 [] [g.tv,c.tv] (Ret [] (.tup [(zhY g c).1.tv,(zhY g c).2.tv])):=by
 refine zGO X_ok Tryz.f162 fun hb hH=>⟨rfl,?_⟩
 show ACall ..
 refine .mk _ (zuJ g c hs (Nat.le_of_lt hk)) fun H r ⟨eH,er⟩ _ _=>⟨.inl rfl,?_⟩
 subst eH er
 show ACall ..
 refine za (zbQ g hl) rfl ?_
 show ABr (bif (bif !zx g [] then true else !decide (c.phase=4)) then true else decide (c.card<0)) _ _
 unfold zhY
 by_cases hx:zx g []=true/\c.phase=4/\0<=c.card
 ·obtain⟨hm,hp,h0⟩:=hx
  have hc0:(bif (bif !zx g [] then true else !decide (c.phase=4)) then true else decide (c.card<0))=false:=by rw[hm,decide_eq_true hp,decide_eq_false (by omega)];rfl
  refine⟨fun h=>absurd (hc0.symm.trans h) (by decide),fun _=>?_⟩
  rw[if_pos ⟨hm,hp,h0⟩]
  show ABr (decide (c.card>=(g.cards.length:Int))) _ _
  by_cases hc:(g.cards.length:Int)<=c.card
  ·rw[if_pos hc,decide_eq_true (show c.card>=(g.cards.length:Int) from hc)]
   refine zYE (by decide) ?_
   show ACall ..
   refine .hand [(224,16)] [(16,.vars (wkV g {c with phase:=5,seek:=0,card:=0,met:=false}))] [.c (.ptr 16 0 0),.int 0] _ (.cons _ _ _ _ (.c _ _ (.ptr _ _ _ _ rfl)) (.cons _ _ _ _ .same .nil)) (.old 16 224 _ _ _ rfl rfl (.vars _ _ (zb rfl)) .nil) rfl (zdL g {c with phase:=5,seek:=0,card:=0,met:=false} 0) ?_
   rintro H r ⟨rfl,rfl⟩ _ _
   refine⟨rfl,.inl rfl,?_⟩
   show ARet ..
   exact zi rfl ⟨rfl,rfl⟩
  ·rw[if_neg hc,decide_eq_false (show ¬c.card>=(g.cards.length:Int) from hc)]
   refine zNO (by decide) ?_
   have hc:c.card<(g.cards.length:Int):=by omega
   by_cases hsk:c.seek=0
   ·show ABr (decide (c.seek=0)) _ _
    rw[if_pos hsk,decide_eq_true hsk]
    refine zYE (by decide) ?_
    show ACall ..
    refine .hand [(224,16)] [(16,.vars (wkV g c))] [.c (.ptr 16 0 0)] _ (.cons _ _ _ _ (.c _ _ (.ptr _ _ _ _ rfl)) .nil) (.old 16 224 _ _ _ rfl rfl (.vars _ _ (zb rfl)) .nil) rfl (zqB g c hl hm h0 hc) ?_
    rintro H r ⟨rfl,rfl⟩ _ _
    refine⟨rfl,.inl rfl,?_⟩
    show ARet ..
    exact zi rfl ⟨rfl,rfl⟩
   ·show ABr (decide (c.seek=0)) _ _
    rw[if_neg hsk,decide_eq_false hsk]
    refine zNO (by decide) ?_
    by_cases ha:c.at_=0
    ·show ABr (!decide (c.at_=0)) _ _
     rw[if_neg (fun k=>k ha),decide_eq_true ha]
     refine zNO (by decide) ?_
     show ACall ..
     refine za (zsm g c.card c.seek hl) rfl ?_
     cases hn:zgn g c.card c.seek with
     |some a=>
      refine zYE (by simp) ?_
      show ACall ..
      refine .hand [(224,16)] [(16,.vars (wkV g c))] [.c (.ptr 16 0 0),.int a] _ (.cons _ _ _ _ (.c _ _ (.ptr _ _ _ _ rfl)) (.cons _ _ _ _ .same .nil)) (.old 16 224 _ _ _ rfl rfl (.vars _ _ (zb rfl)) .nil) rfl (zdL g c a) ?_
      rintro H r ⟨rfl,rfl⟩ _ _
      refine⟨rfl,.inl rfl,?_⟩
      show ARet ..
      exact zi rfl ⟨rfl,rfl⟩
     |none=>
      refine zNO (by simp) ?_
      show ACall ..
      refine .hand [(224,16)] [(16,.vars (wkV g c))] [.c (.ptr 16 0 0)] _ (.cons _ _ _ _ (.c _ _ (.ptr _ _ _ _ rfl)) .nil) (.old 16 224 _ _ _ rfl rfl (.vars _ _ (zb rfl)) .nil) rfl (zvm g c hl hm h0 hc) ?_
      rintro H r ⟨rfl,rfl⟩ _ _
      refine⟨rfl,.inl rfl,?_⟩
      show ARet ..
      exact zi rfl ⟨rfl,rfl⟩
    ·show ABr (!decide (c.at_=0)) _ _
     rw[if_pos ha,decide_eq_false ha]
     refine zYE (by decide) ?_
     show ACall ..
     refine .hand [(224,16)] [(16,.vars (wkV g c))] [.c (.ptr 16 0 0)] _ (.cons _ _ _ _ (.c _ _ (.ptr _ _ _ _ rfl)) .nil) (.old 16 224 _ _ _ rfl rfl (.vars _ _ (zb rfl)) .nil) rfl (zpr g c hl hs hk) ?_
     rintro H r ⟨rfl,rfl⟩ _ _
     refine⟨rfl,.inl rfl,?_⟩
     show ARet ..
     exact zi rfl ⟨rfl,rfl⟩
 ·rw[if_neg hx]
  have hc0:(bif (bif !zx g [] then true else !decide (c.phase=4)) then true else decide (c.card<0))=true:=by
   cases hm:zx g [] with
   |false=>rfl
   |true=>
    by_cases hp:c.phase=4
    ·have:c.card<0:=by
      apply Classical.byContradiction
      intro h;exact hx ⟨hm,hp,by omega⟩
     rw[decide_eq_true hp,decide_eq_true this];rfl
    ·rw[decide_eq_false hp];rfl
  refine⟨fun _=>?_,fun h=>absurd (hc0.symm.trans h) (by decide)⟩
  show ARet ..
  exact zi rfl ⟨rfl,rfl⟩
theorem zuz (g:Hp) (c:Col) (hs:g.small) (hw:c.work.length<=zk):Spec X 211 [] [g.tv,c.tv] (Ret [] (.tup [g.tv,c.tv])):=by
 refine zGO X_ok Tryz.f211 fun hb hH=>⟨rfl,?_⟩
 obtain⟨h1,h2,h3,h4,h5,h6⟩:=hs
 show ADCall ..
 refine .mk _ _ (zd g.w h1) rfl ?_
 show ADCall ..
 refine .mk _ _ (zac g.pages h2) rfl ?_
 show ADCall ..
 refine .mk _ _ (zah g.cards h3) rfl ?_
 show ∃n,_
 refine⟨4,?_⟩
 show ALoop ..
 refine .next ?_
 refine zYE (by decide) ?_
 show AOb ..
 refine⟨by decide,?_⟩
 show ACall ..
 refine za (zd g.free.l0 h4) rfl ?_
 show AOb ..
 refine⟨by decide,?_⟩
 show ALoop ..
 refine .next ?_
 refine zYE (by decide) ?_
 show AOb ..
 refine⟨by decide,?_⟩
 show ACall ..
 refine za (zd g.free.l1 h5) rfl ?_
 show AOb ..
 refine⟨by decide,?_⟩
 show ALoop ..
 refine .next ?_
 refine zYE (by decide) ?_
 show AOb ..
 refine⟨by decide,?_⟩
 show ACall ..
 refine za (zd g.free.l2 h6) rfl ?_
 show AOb ..
 refine⟨by decide,?_⟩
 show ALoop ..
 refine .next ?_
 refine zNO (by decide) ?_
 show ACall ..
 refine za (zd c.work hw) rfl ?_
 show ARet ..
 exact zi rfl ⟨rfl,rfl⟩
theorem zlz (g:Hp) (c:Col) (a:Int) (hl:g.light) (hs:g.small):Spec X 214 [] [g.tv,c.tv,.int a] (Ret [] (.int (zaT g c a))):=by
 refine zGO X_ok Tryz.f214 fun hb hH=>⟨rfl,?_⟩
 unfold zaT
 show ACall ..
 refine za (ziS g c a hl hs) rfl ?_
 show ABr (!decide (atK g c a=2)) _ _
 refine⟨fun h=>?_,fun h=>?_⟩
 ·have h:¬atK g c a=2:=by simpa using h
  rw[if_neg h]
  show ARet ..
  exact zi rfl ⟨rfl,rfl⟩
 ·have h:atK g c a=2:=by simpa using h
  rw[if_pos h]
  show ACall ..
  refine za (zaJ g a hl) rfl ?_
  show ARet ..
  exact zi rfl ⟨rfl,rfl⟩
theorem zto {c d:Col} (h1:d.epoch=c.epoch) (h2:d.major=c.major) (g:Hp) (a:Int):zak g d a=zak g c a:=by unfold zak;rw[zoH h1 h2]
theorem zu4 {c d:Col} (h1:d.epoch=c.epoch) (h2:d.major=c.major) (g:Hp) (a:Int):zaT g d a=zaT g c a:=by unfold zaT;rw[zoH h1 h2]
set_option maxHeartbeats 2000000 in
theorem zqx (g:Hp) (c:Col) (hl:g.light) (hs:g.small) (hk:c.work.length<zk):Spec X 212 [] [g.tv,c.tv] (Ret [] (.tup [(zle g c).1.tv,(zle g c).2.tv])):=by
 refine zGO X_ok Tryz.f212 fun hb hH=>⟨rfl,?_⟩
 show ADCall ..
 refine .mk _ _ (zlz g c c.at_ hl hs) rfl ?_
 unfold zle
 show ABr (bif decide (c.field_<0) then true else decide (c.field_>=zaT g c c.at_)) _ _
 by_cases hf:c.field_<0\/zaT g c c.at_<=c.field_
 ·rw[if_pos hf]
  have hc:(bif decide (c.field_<0) then true else decide (c.field_>=zaT g c c.at_))=true:=by
   rcases hf with h|h<;>simp[h]
  rw[hc]
  refine zYE (by decide) ?_
  show ARet ..
  exact zi rfl ⟨rfl,rfl⟩
 ·rw[if_neg hf]
  have hc:(bif decide (c.field_<0) then true else decide (c.field_>=zaT g c c.at_))=false:=by
   simp;omega
  rw[hc]
  refine zNO (by decide) ?_
  have h0:0<=c.field_:=by omega
  have hlt:c.field_<zaT g c c.at_:=by omega
  have hg2:atK g c c.at_=2:=zcC.1 (by omega)
  have hE:=(zfG hg2).1
  have hn:zaT g c c.at_=(headH g c.at_).n:=if_pos hg2
  obtain⟨hm,_,_⟩:=zU hE
  obtain⟨hmw,_,hlen,_,_,h64⟩:=zl (zA hm)
  obtain⟨⟨a1,a2⟩,_⟩:=zfo (f:=c.field_+1) hE (by omega) (by omega)
  have ha16:=(zfG hg2).2.2
  have w1:IntKind.i64.wrap (c.at_+1)=c.at_+1:=zB (by omega) (by omega)
  have w2:IntKind.i64.wrap (c.at_+1+c.field_)=c.at_+1+c.field_:=zB (by omega) (by omega)
  have w3:IntKind.i64.wrap (c.field_+1)=c.field_+1:=zB (by omega) (by omega)
  have hv:at0 g.w (IntKind.i64.wrap (IntKind.i64.wrap (c.at_+1)+c.field_)-16).toNat=wordOf g (c.at_+1+c.field_):=by
   rw[w1,w2]
   unfold wordOf zf
   rw[if_pos ⟨hmw,by omega,by omega⟩]
  generalize wordOf g (c.at_+1+c.field_)=v at hv
  show ACall ..
  refine za (zhp g.w (IntKind.i64.wrap (IntKind.i64.wrap (c.at_+1)+c.field_)) hmw (by rw[w1,w2];omega)) rfl ?_
  rw[hv]
  show ACall ..
  refine za (zcx g c v hl hs hk) rfl ?_
  have sm:=zY g c v
  have ef:IntKind.i64.wrap ((zG g c v).field_+1)=c.field_+1:=by rw[sm.field_,w3]
  show ABr (decide (IntKind.i64.wrap ((zG g c v).field_+1)=zaT g c c.at_)) _ _
  rw[ef]
  by_cases hl2:c.field_+1=zaT g c c.at_
  ·rw[if_pos hl2,decide_eq_true hl2]
   refine zYE (by decide) ?_
   have hMs:=zbX g c v
   show ACall ..
   refine za (ziS (zH g c v) {zG g c v with field_:=c.field_+1} c.at_ (hMs.light hl) (hMs.small hs)) rfl ?_
   rw[zto (c:=c) (d:={zG g c v with field_:=c.field_+1}) sm.epoch sm.major]
   show ARet ..
   exact zi rfl ⟨rfl,rfl⟩
  ·rw[if_neg hl2,decide_eq_false hl2]
   refine zNO (by decide) ?_
   show ARet ..
   exact zi rfl ⟨rfl,rfl⟩
theorem zzk {n:Nat} (h:n<zk):IntKind.i64.wrap ((n:Int)-1)=(n:Int)-1:=zB (by omega) (by unfold zk at h;omega)
set_option maxHeartbeats 2000000 in
theorem zlY (g:Hp) (c:Col) (hl:g.light) (hs:g.small) (hk:c.work.length<zk):Spec X 163 [] [g.tv,c.tv] (Ret [] (.tup [(zfa g c).1.tv,(zfa g c).2.tv])):=by
 refine zGO X_ok Tryz.f163 fun hb hH=>⟨rfl,?_⟩
 have hlw:=zzk hk
 show ACall ..
 refine za (zbQ g hl) rfl ?_
 show ACall ..
 refine za (zuz g c hs (Nat.le_of_lt hk)) rfl ?_
 unfold zfa
 show ABr (!zx g []) _ _
 refine⟨fun h=>?_,fun h=>?_⟩
 ·have hm:zx g []=false:=by simpa using h
  rw[if_neg (fun k=>by rw[hm]at k;exact Bool.false_ne_true k.1)]
  show ABr ..
  refine⟨fun _=>?_,fun h=>absurd h (by simp[hm])⟩
  show ARet ..
  exact zi rfl ⟨rfl,rfl⟩
 ·have hm:zx g []=true:=by simpa using h
  show ABr (!decide (c.phase=5)) _ _
  refine⟨fun h=>?_,fun h=>?_⟩
  ·have hp:c.phase≠5:=by simpa using h
   rw[if_neg (fun k=>hp k.2)]
   show ARet ..
   exact zi rfl ⟨rfl,rfl⟩
  ·have hp:c.phase=5:=by simpa using h
   rw[if_pos ⟨hm,hp⟩]
   show ABr (!decide (c.at_=0)) _ _
   refine⟨fun h=>?_,fun h=>?_⟩
   ·have ha:c.at_≠0:=by simpa using h
    rw[if_pos ha]
    show ACall ..
    refine za (zqx g c hl hs hk) rfl ?_
    show ARet ..
    exact zi rfl ⟨rfl,rfl⟩
   ·have ha:c.at_=0:=by simpa using h
    rw[if_neg (fun k=>k ha)]
    show ABr (decide (IntKind.i64.wrap ((c.work.length:Int)-1)>=0)) _ _
    by_cases hw:0<c.work.length
    ·rw[if_pos hw,decide_eq_true (show IntKind.i64.wrap ((c.work.length:Int)-1)>=0 by rw[hlw];omega)]
     refine zYE (by decide) ?_
     have e3:c.work.length-1=(IntKind.i64.wrap ((c.work.length:Int)-1)).toNat:=by rw[hlw];omega
     show AOb ((0:Int)<=IntKind.i64.wrap ((c.work.length:Int)-1)/\IntKind.i64.wrap ((c.work.length:Int)-1)<(c.work.length:Int)) _
     refine⟨by rw[hlw];omega,?_⟩
     show AOb ((0:Int)<=IntKind.i64.wrap ((c.work.length:Int)-1)/\IntKind.i64.wrap ((c.work.length:Int)-1)<=(c.work.length:Int)) _
     refine⟨by rw[hlw];omega,?_⟩
     rw[e3]
     show ARet ..
     exact zi rfl ⟨rfl,rfl⟩
    ·rw[if_neg hw,decide_eq_false (show ¬IntKind.i64.wrap ((c.work.length:Int)-1)>=0 by rw[hlw];omega)]
     refine zNO (by decide) ?_
     show ABr (!decide (c.seek=0)) _ _
     refine⟨fun h=>?_,fun h=>?_⟩
     ·have hsk:c.seek≠0:=by simpa using h
      rw[if_pos hsk]
      show ACall ..
      refine za (zmS g.pages c.seek) rfl ?_
      show ACall ..
      refine za (zlz g {c with seek:=zM g.pages c.seek} (zM g.pages c.seek) hl hs) rfl ?_
      rw[zu4 (c:=c) (d:={c with seek:=zM g.pages c.seek}) rfl rfl]
      show ABr (decide (zaT g c (zM g.pages c.seek)=0)) _ _
      refine⟨fun h=>?_,fun h=>?_⟩
      ·rw[if_pos (of_decide_eq_true h)]
       show ARet ..
       exact zi rfl ⟨rfl,rfl⟩
      ·rw[if_neg (of_decide_eq_false h)]
       show ARet ..
       exact zi rfl ⟨rfl,rfl⟩
     ·have hsk:c.seek=0:=by simpa using h
      rw[if_neg (fun k=>k hsk)]
      show ABr (c.over) _ _
      refine⟨fun h=>?_,fun h=>?_⟩
      ·rw[if_pos h]
       show ARet ..
       exact zi rfl ⟨rfl,rfl⟩
      ·rw[if_neg (fun k=>by rw[h]at k;cases k)]
       show ARet ..
       exact zi rfl ⟨rfl,rfl⟩
theorem zlf (p:Int):Spec X 166 [] [.int p] (Ret [] (.int (zeo p))):=by
 refine zGO X_ok Tryz.f166 fun hb hH=>⟨rfl,?_⟩
 unfold zeo
 show ABr (decide (p=0)) _ _
 refine⟨fun h=>?_,fun h=>?_⟩
 ·rw[if_pos (of_decide_eq_true h)]
  show ARet ..
  exact zi rfl ⟨rfl,rfl⟩
 ·rw[if_neg (of_decide_eq_false h)]
  show ABr (decide (p=1)) _ _
  refine⟨fun h=>?_,fun h=>?_⟩
  ·rw[if_pos (of_decide_eq_true h)]
   show ARet ..
   exact zi rfl ⟨rfl,rfl⟩
  ·rw[if_neg (of_decide_eq_false h)]
   show ABr (decide (p=2)) _ _
   refine⟨fun h=>?_,fun h=>?_⟩
   ·rw[if_pos (of_decide_eq_true h)]
    show ARet ..
    exact zi rfl ⟨rfl,rfl⟩
   ·rw[if_neg (of_decide_eq_false h)]
    show ARet ..
    exact zi rfl ⟨rfl,rfl⟩
theorem zhP (c:Col) (t:Thread):Spec X 143 [] [c.tv,t.tv] (Ret [] (.bo (zaz c t))):=by
 refine zGO X_ok Tryz.f143 fun hb hH=>⟨rfl,?_⟩
 show ACall ..
 refine za (zlf c.phase) rfl ?_
 unfold zeo zaz
 by_cases h0:c.phase=0
 ·rw[if_pos h0,if_pos h0]
  refine zYE (by decide) ?_
  show ARet ..
  exact zi rfl ⟨rfl,rfl⟩
 ·rw[if_neg h0,if_neg h0]
  by_cases h1:c.phase=1
  ·rw[if_pos h1,if_pos h1]
   refine zNO (by decide) ?_
   refine zYE (by decide) ?_
   show ARet ..
   exact zi rfl ⟨rfl,rfl⟩
  ·rw[if_neg h1,if_neg h1]
   by_cases h2:c.phase=2
   ·rw[if_pos h2,if_pos h2]
    refine zNO (by decide) ?_
    refine zNO (by decide) ?_
    refine zYE (by decide) ?_
    show ARet ..
    refine zt (x:=bif decide (t.epoch=c.epoch) then decide (t.stage>=2) else false) ?_ ⟨rfl,rfl⟩
    rw[zdD]
    cases decide (t.epoch=c.epoch)<;>rfl
   ·rw[if_neg h2,if_neg h2]
    refine zNO (by decide) ?_
    refine zNO (by decide) ?_
    refine zNO (by decide) ?_
    show ARet ..
    refine zt (x:=bif decide (t.epoch=c.epoch) then decide (t.stage=3) else false) ?_ ⟨rfl,rfl⟩
    rw[zdD]
    cases decide (t.epoch=c.epoch)<;>rfl
theorem zmj (c:Col) (t:Thread):Spec X 114 [] [c.tv,t.tv] (Ret [] (.bo (zaS c t))):=by
 refine zGO X_ok Tryz.f114 fun hb hH=>⟨rfl,?_⟩
 unfold zaS
 show AIf (t.live=true/\True) _ _
 by_cases hl:t.live=true
 ·refine⟨fun _=>?_,fun h=>absurd ⟨hl,trivial⟩ h⟩
  show ACall ..
  refine za (zmX t) rfl ?_
  conv=>whnf
  trace_state
  skip
  show AIf ((bif decide t.mayT then t.pc==0 else false)=true/\True) _ _
  by_cases hb:(bif decide t.mayT then t.pc==0 else false)=true
  ·refine⟨fun _=>?_,fun h=>absurd ⟨hb,trivial⟩ h⟩
   show ACall ..
   refine za (zhP c t) rfl ?_
   show ARet ..
   refine zt (x:=!zaz c t) ?_ ⟨rfl,rfl⟩
   cases h1:decide t.mayT with
   |false=>rw[h1]at hb;cases hb
   |true=>
    rw[h1]at hb
    rw[decide_eq_true (show t.pc=0 by simpa using hb),hl]
    rfl
  ·refine⟨fun h=>absurd h.1 hb,fun _=>?_⟩
   show AOb ..
   refine⟨by simpa using hb,?_⟩
   show ARet ..
   refine zt (x:=false) ?_ ⟨rfl,rfl⟩
   cases h1:decide t.mayT with
   |false=>rw[Bool.false_and,Bool.and_false]
   |true=>
    rw[h1]at hb
    rw[decide_eq_false (show ¬t.pc=0 by simpa using hb),Bool.false_and,Bool.and_false,Bool.and_false]
 ·refine⟨fun h=>absurd h.1 hl,fun _=>?_⟩
  show AOb ..
  refine⟨by simpa using hl,?_⟩
  conv=>whnf
  trace_state
  skip
  refine⟨fun h=>absurd h.1 Bool.false_ne_true,fun _=>?_⟩
  show AOb ..
  refine⟨by rfl,?_⟩
  show ARet ..
  refine zt (x:=false) ?_ ⟨rfl,rfl⟩
  rw[show t.live=false by simpa using hl,Bool.false_and]
set_option maxHeartbeats 4000000 in
set_option maxRecDepth 60000 in
theorem zku (g:Hp) (c:Col) (t:Thread) (hs:g.small) (hw:c.work.length<=zk) (ht:t.ok):Spec X 144 [] [g.tv,c.tv,t.tv] (Ret [] (.tup [g.tv,c.tv,t.tv])):=by
 refine zGO X_ok Tryz.f144 fun hb hH=>⟨rfl,?_⟩
 obtain⟨h1,h2,h3,h4,h5,h6⟩:=hs
 obtain⟨t1,t2,t3,t4⟩:=ht
 show ADCall ..
 refine .mk _ _ (zd g.w h1) rfl ?_
 show ADCall ..
 refine .mk _ _ (zac g.pages h2) rfl ?_
 show ADCall ..
 refine .mk _ _ (zah g.cards h3) rfl ?_
 show ADCall ..
 refine .mk _ _ (zd c.work hw) rfl ?_
 show ADCall ..
 refine .mk _ _ (zck t.ops t1) rfl ?_
 show ∃n,_
 refine⟨4,?_⟩
 show ALoop ..
 refine .next ?_
 refine zYE (by decide) ?_
 show AOb ..
 refine⟨by decide,?_⟩
 show ADCall ..
 refine .mk _ _ (zd g.free.l0 h4) rfl ?_
 show AOb ..
 refine⟨by decide,?_⟩
 show ADCall ..
 refine .mk _ _ (zd t.cache.l0 t2) rfl ?_
 show AOb ..
 refine⟨by decide,?_⟩
 show AOb ..
 refine⟨by decide,?_⟩
 show ALoop ..
 refine .next ?_
 refine zYE (by decide) ?_
 show AOb ..
 refine⟨by decide,?_⟩
 show ADCall ..
 refine .mk _ _ (zd g.free.l1 h5) rfl ?_
 show AOb ..
 refine⟨by decide,?_⟩
 show ADCall ..
 refine .mk _ _ (zd t.cache.l1 t3) rfl ?_
 show AOb ..
 refine⟨by decide,?_⟩
 show AOb ..
 refine⟨by decide,?_⟩
 show ALoop ..
 refine .next ?_
 refine zYE (by decide) ?_
 show AOb ..
 refine⟨by decide,?_⟩
 show ADCall ..
 refine .mk _ _ (zd g.free.l2 h6) rfl ?_
 show AOb ..
 refine⟨by decide,?_⟩
 show ADCall ..
 refine .mk _ _ (zd t.cache.l2 t4) rfl ?_
 show AOb ..
 refine⟨by decide,?_⟩
 show AOb ..
 refine⟨by decide,?_⟩
 show ALoop ..
 refine .next ?_
 refine zNO (by decide) ?_
 show ARet ..
 exact zi rfl ⟨rfl,rfl⟩
set_option maxHeartbeats 4000000 in
set_option maxRecDepth 60000 in
theorem zqy (g:Hp) (c:Col) (t:Thread) (hl:g.light) (hs:g.small) (hw:c.work.length<zk) (ht:t.ok):Spec X 115 [] [g.tv,c.tv,t.tv] (Ret [] (.tup [(ansG g c t).tv,(ansC g c t).tv,(ansT c t).tv])):=by
 refine zGO X_ok Tryz.f115 fun hb hH=>⟨rfl,?_⟩
 show ACall ..
 refine za (zmj c t) rfl ?_
 show ACall ..
 refine za (zku g c t hs (Nat.le_of_lt hw) ht) rfl ?_
 show ABr (!zaS c t) _ _
 refine⟨fun h=>?_,fun h=>?_⟩
 ·have ha:zaS c t=false:=by simpa using h
  rw[zx7 ha,zxL ha,zoS ha]
  show ARet ..
  exact zi rfl ⟨rfl,rfl⟩
 ·have ha:zaS c t=true:=by simpa using h
  show ABr (!decide (t.epoch=c.epoch)) _ _
  refine⟨fun h=>?_,fun h=>?_⟩
  ·have he:t.epoch≠c.epoch:=by simpa using h
   rcases zfj ha with⟨_,hk,e⟩|⟨h1,_⟩|⟨h1,_⟩
   ·rw[e,show ansG g c t=g by unfold ansG;rw[if_neg (by omega)],show ansC g c t=c by unfold ansC;rw[if_neg (by omega)]]
    show ARet ..
    exact zi rfl ⟨rfl,rfl⟩
   ·exact absurd h1 he
   ·exact absurd h1 he
  ·have he:t.epoch=c.epoch:=by simpa using h
   show ABr (decide (c.phase=2)) _ _
   refine⟨fun h=>?_,fun h=>?_⟩
   ·have hp:c.phase=2:=of_decide_eq_true h
    rcases zfj ha with⟨h1,_⟩|⟨_,_,_,hk,e⟩|⟨_,_,_,h1,_⟩
    ·exact absurd he h1
    ·rw[e,show ansG g c t=g by unfold ansG;rw[if_neg (by omega)],show ansC g c t=c by unfold ansC;rw[if_neg (by omega)]]
     show ARet ..
     exact zi rfl ⟨rfl,rfl⟩
    ·exact absurd hp h1
   ·have hp:c.phase≠2:=of_decide_eq_false h
    obtain⟨_,⟨_,_,m3,m4,_⟩,_⟩:=zmQ ha
    rcases zfj ha with⟨h1,_⟩|⟨_,h1,_⟩|⟨_,_,_,_,_,hk,e⟩
    ·exact absurd he h1
    ·exact absurd h1 hp
    ·rw[e,show ansG g c t=zH g c (t.reg t.root) by unfold ansG;rw[if_pos hk],show ansC g c t=zG g c (t.reg t.root) by unfold ansC;rw[if_pos hk]]
     clear ha he hk e
     obtain⟨live,r0,r1,r2,r3,cache,epoch,stage,root,ops,pc,x,y⟩:=t
     have m3:0<=root:=m3
     have m4:root<=3:=m4
     rcases (show root=0\/root=1\/root=2\/root=3 by omega) with rfl|rfl|rfl|rfl
     ·show AOb ..
      refine⟨by exact⟨(by decide:(0:Int)<=0),(by decide:(0:Int)<4)⟩,?_⟩
      show ADCall ..
      refine .mk _ _ (zcx g c r0 hl hs hw) rfl ?_
      show ABr (IntKind.i64.wrap ((0:Int)+1)==4) _ _
      refine zNO (by decide) ?_
      show ARet ..
      exact zi rfl ⟨rfl,rfl⟩
     ·show AOb ..
      refine⟨by exact⟨(by decide:(0:Int)<=1),(by decide:(1:Int)<4)⟩,?_⟩
      show ADCall ..
      refine .mk _ _ (zcx g c r1 hl hs hw) rfl ?_
      show ABr (IntKind.i64.wrap ((1:Int)+1)==4) _ _
      refine zNO (by decide) ?_
      show ARet ..
      exact zi rfl ⟨rfl,rfl⟩
     ·show AOb ..
      refine⟨by exact⟨(by decide:(0:Int)<=2),(by decide:(2:Int)<4)⟩,?_⟩
      show ADCall ..
      refine .mk _ _ (zcx g c r2 hl hs hw) rfl ?_
      show ABr (IntKind.i64.wrap ((2:Int)+1)==4) _ _
      refine zNO (by decide) ?_
      show ARet ..
      exact zi rfl ⟨rfl,rfl⟩
     ·show AOb ..
      refine⟨by exact⟨(by decide:(0:Int)<=3),(by decide:(3:Int)<4)⟩,?_⟩
      show ADCall ..
      refine .mk _ _ (zcx g c r3 hl hs hw) rfl ?_
      show ABr (IntKind.i64.wrap ((3:Int)+1)==4) _ _
      refine zYE (by decide) ?_
      show ARet ..
      exact zi rfl ⟨rfl,rfl⟩
theorem zwA {g:Nat} {x:Thread} {cs:List DV} {h:zg} {base:Nat} {k:TV->zg->Prop} {b:Bool} (hp:Spec X g [] (x.tv::zdi cs) (Ret [] (.bo b))) (hk:k (.bo b) []) :
  ACall X g (x.tv::zdi cs) h base k:=by
 refine za (r:=.bo b) ?_ (by simp[zcH,zeG]) hk
 show Spec X g [] (x.tv::(zdi cs).map (zdF h)) _
 rw[zj4]
 exact hp
theorem zuk {p:Thread->Bool} {l:List Thread} (h:∀x∈l,p x=false):l.findIdx? p=none:=by
 rw[List.findIdx?_eq_none_iff]
 exact h
theorem zuD {p:Thread->Bool} {l:List Thread} {i:Nat} (hi:i<l.length) (hj:∀j,j<i->p (l.getD j default)=false) (h:p (l.getD i default)=true):l.findIdx? p=some i:=by
 rw[List.findIdx?_eq_some_iff_getElem]
 refine⟨hi,?_,fun j hlt=>?_⟩
 ·rw[List.getD_eq_getElem?_getD,List.getElem?_eq_getElem hi]at h
  exact h
 ·have:=hj j hlt
  rw[List.getD_eq_getElem?_getD,List.getElem?_eq_getElem (by omega)]at this
  simpa using this
theorem zgH (l:List Thread) (g:Nat) (cs:List DV) (p:Thread->Bool) (hp:∀x∈l,Spec X g [] (x.tv::zdi cs) (Ret [] (.bo (p x)))) :
  Spec X 110 [] [.c (.d (.sl .thread l)),.c (.d (.fn g [] cs))] (Ret [] (.int (zmL (l.findIdx? p)))):=by
 refine zGO X_ok Tryz.f110 fun hb _=>⟨rfl,?_⟩
 have hla:l.length<=zE:=(hb (.c (.d (.sl .thread l))) (by simp)).1
 unfold zE at hla
 show ∃n,_
 refine⟨0,ALoop.inv (ι:={i:Nat // i<=l.length/\∀j,j<i->p (l.getD j default)=false}) (fun i=>⟨[(0,.c (.d (.sl .thread l))),(1,.c (.d (.fn g [] cs))),(7,.int l.length),(8,.int i.1)],[],32⟩) (fun i=>l.length-i.1) ⟨0,Nat.zero_le _,fun j hj=>absurd hj (by omega)⟩ ?_ ?_⟩
 ·exact⟨[],.cons _ _ _ .same (.cons _ _ _ .same (.cons _ _ _ .same (.cons _ _ _ .same .nil))),.nil,rfl⟩
 ·rintro⟨i,hi,hn⟩
  show ABr (decide ((i:Int)<(l.length:Int))) _ _
  refine⟨fun h=>?_,fun h=>?_⟩
  ·have hlt:i<l.length:=by simpa using h
   show AOb ((0:Int)<=(i:Int)/\(i:Int)<(l.length:Int)) _
   refine⟨by omega,?_⟩
   have hmem:l.getD i default∈l:=by
    rw[List.getD_eq_getElem?_getD,List.getElem?_eq_getElem hlt]
    exact List.getElem_mem hlt
   refine zwA (hp (l.getD i default) hmem) ?_
   show ABr (p (l.getD i default)) _ _
   refine⟨fun h=>?_,fun h=>?_⟩
   ·show ARet ..
    refine zaZ (x:=(i:Int)) ?_ ⟨rfl,rfl⟩
    rw[zuD hlt hn h]
    rfl
   ·show ARound ..
    exact⟨⟨i+1,hlt,fun j hj=>by
     by_cases e:j=i
     ·subst e;exact h
     ·exact hn j (by omega)⟩,by show l.length-(i+1)<l.length-i;omega,[],.cons _ _ _ .same (.cons _ _ _ .same (.cons _ _ _ .same (.cons _ _ _ (.int_eq (zad (i:=i) (by unfold zE;omega))) .nil))),.nil,rfl⟩
  ·have hge:i=l.length:=by simp at h;omega
   show ARet ..
   refine zaZ (x:=-1) ?_ ⟨rfl,rfl⟩
   rw[zuk fun x hx=>?_]
   ·rfl
   ·obtain⟨j,hj,e⟩:=List.mem_iff_getElem.1 hx
    have:=hn j (by omega)
    rw[show l.getD j default=x from by rw[List.getD_eq_getElem?_getD,List.getElem?_eq_getElem hj,e];rfl]at this
    exact this
theorem zyf (p:Thread->Bool) (l:List Thread):decide (zmL (l.findIdx? p)>=0)=l.any p:=by
 cases h:l.findIdx? p with
 |none=>
  rw[List.findIdx?_eq_none_iff]at h
  symm
  show l.any p=decide ((-1:Int)>=0)
  rw[show decide ((-1:Int)>=0)=false by decide,List.any_eq_false]
  intro x hx
  rw[h x hx]
  decide
 |some i=>
  rw[List.findIdx?_eq_some_iff_getElem]at h
  obtain⟨h1,h2,_⟩:=h
  symm
  rw[List.any_eq_true.2 ⟨_,List.getElem_mem h1,h2⟩]
  show true=decide ((i:Int)>=0)
  rw[decide_eq_true (by omega)]
theorem zg0 (l:List Thread) (g:Nat) (cs:List DV) (p:Thread->Bool) (hp:∀x∈l,Spec X g [] (x.tv::zdi cs) (Ret [] (.bo (p x)))) :
  Spec X 71 [] [.c (.d (.sl .thread l)),.c (.d (.fn g [] cs))] (Ret [] (.bo (l.any p))):=by
 refine zGO X_ok Tryz.f71 fun hb _=>⟨rfl,?_⟩
 show ACall ..
 refine za (zgH l g cs p hp) rfl ?_
 show ARet ..
 refine zt (x:=decide (zmL (l.findIdx? p)>=0)) (zyf p l) ⟨rfl,rfl⟩
theorem zst (c:Col) (t:Thread):Spec X 204 [] (t.tv::zdi [.rp c.enc]) (Ret [] (.bo (bif t.live then !zaz c t else false))):=by
 refine zGO X_ok Tryz.f204 fun hb _=>⟨rfl,?_⟩
 show AIf (t.live=true/\True) _ _
 by_cases hl:t.live=true
 ·refine⟨fun _=>?_,fun h=>absurd ⟨hl,trivial⟩ h⟩
  show ACall ..
  refine za (zhP c t) rfl ?_
  show ARet ..
  refine zt (x:=!zaz c t) ?_ ⟨rfl,rfl⟩
  rw[hl]
  rfl
 ·refine⟨fun h=>absurd h.1 hl,fun _=>?_⟩
  show AOb ..
  refine⟨by simpa using hl,?_⟩
  show ARet ..
  refine zt (x:=false) ?_ ⟨rfl,rfl⟩
  rw[show t.live=false by simpa using hl]
  rfl
theorem zv9 (c:Col) (l:List Thread):(!l.any fun t=>bif t.live then !zaz c t else false)=zir c l:=by
 unfold zir
 rw[List.not_any_eq_all_not]
 congr 1
 funext t
 cases t.live<;>simp
theorem zn1 (c:Col) (l:List Thread):Spec X 160 [] [c.tv,.c (.d (.sl .thread l))] (Ret [] (.bo (zir c l))):=by
 refine zGO X_ok Tryz.f160 fun hb hH=>⟨rfl,?_⟩
 show ACall ..
 refine za (zg0 l 204 [.rp c.enc] (fun t=>bif t.live then !zaz c t else false) (fun x _=>zst c x)) rfl ?_
 show ARet ..
 refine zt (x:=!l.any fun t=>bif t.live then !zaz c t else false) (zv9 c l) ⟨rfl,rfl⟩
theorem zjy (t:Thread):Spec X 167 [] (t.tv::zdi []) (Ret [] (.bo t.live)):=by
 refine zGO X_ok Tryz.f167 fun hb _=>⟨rfl,?_⟩
 show ARet ..
 exact zi rfl ⟨rfl,rfl⟩
def Col.zero:Col:=⟨0,0,false,[],false,0,0,0,0,false⟩
def zkg (t:Thread) (e s:Int):Thread:={t with live:=true,r0:=0,r1:=0,r2:=0,r3:=0,epoch:=e,stage:=s,root:=0,pc:=0,x:=0,y:=0}
theorem zkz {c:Col} {t:Thread} {l:List Thread} (h:l.findIdx? (·.live)=none):beginT c t l=zkg t (if c.phase=0 then 0 else c.epoch) (zeo c.phase):=by
 unfold beginT
 have:l.find? (·.live)=none:=by rw[List.find?_eq_none];rw[List.findIdx?_eq_none_iff]at h;intro x hx;rw[h x hx];decide
 rw[this]
 rfl
theorem zkT {c:Col} {t:Thread} {l:List Thread} {i:Nat} (h:l.findIdx? (·.live)=some i):i<l.length/\(l.getD i default).live=true/\(∀j,j<i->(l.getD j default).live=false)/\beginT c t l={zkg t (l.getD i default).epoch (l.getD i default).stage with r0:=(l.getD i default).r0}:=by
 rw[List.findIdx?_eq_some_iff_getElem]at h
 obtain⟨h1,h2,h3⟩:=h
 have hg:l.getD i default=l[i]:=by rw[List.getD_eq_getElem?_getD,List.getElem?_eq_getElem h1];rfl
 refine⟨h1,by rw[hg];exact h2,fun j hj=>?_,?_⟩
 ·have:=h3 j hj
  rw[List.getD_eq_getElem?_getD,List.getElem?_eq_getElem (by omega)]
  simpa using this
 ·unfold beginT
  have:l.find? (·.live)=some l[i]:=by
   rw[List.find?_eq_some_iff_getElem]
   exact⟨h2,i,h1,rfl,fun j hj=>by simpa using h3 j hj⟩
  rw[this,hg]
  rfl
theorem zhf (n low high:Int):Spec X 111 [] [.int n,.int low,.int high] (Ret [] (.bo (decide (low<=n/\n<=high)))):=by
 refine zGO X_ok Tryz.f111 fun hb hH=>⟨rfl,?_⟩
 show ARet ..
 refine zt (x:=bif decide (n>=low) then decide (n<=high) else false) ?_ ⟨rfl,rfl⟩
 by_cases h1:low<=n
 ·rw[decide_eq_true (show n>=low from h1)]
  by_cases h2:n<=high
  ·rw[decide_eq_true h2,decide_eq_true (show low<=n/\n<=high from⟨h1,h2⟩)];rfl
  ·rw[decide_eq_false h2,decide_eq_false (show ¬(low<=n/\n<=high) from fun k=>h2 k.2)];rfl
 ·rw[decide_eq_false (show ¬n>=low from h1),decide_eq_false (show ¬(low<=n/\n<=high) from fun k=>h1 k.1)];rfl
theorem zsg (c:Col):zbi c=(decide (0<=c.phase/\c.phase<=6)&&(decide ((if c.phase=0 then 0 else 1)<=c.epoch/\c.epoch<=1048576)&&decide ((c.work.length:Int)<=4))):=by
 unfold zbi
 rw[←Bool.decide_and,←Bool.decide_and]
 exact decide_eq_decide.2 ⟨fun⟨a,b,c,d,e⟩=>⟨⟨a,b⟩,⟨c,d⟩,e⟩,fun⟨⟨a,b⟩,⟨c,d⟩,e⟩=>⟨a,b,c,d,e⟩⟩
theorem zgg (c:Col):Spec X 72 [] [c.tv] (Ret [] (.bo (zbi c))):=by
 refine zGO X_ok Tryz.f72 fun hb hH=>⟨rfl,?_⟩
 rw[zsg]
 show ABr (c.phase==0) _ _
 by_cases h0:c.phase=0
 ·rw[if_pos h0,show(c.phase==0)=true by simpa using h0]
  refine zYE (by decide) ?_
  show ACall ..
  refine za (zhf c.phase 0 6) rfl ?_
  cases hA:decide (0<=c.phase/\c.phase<=6) with
  |false=>
   show AIf ..
   refine⟨fun h=>absurd h.1 (by decide),fun _=>?_⟩
   show AOb ..
   refine⟨by decide,?_⟩
   show ARet ..
   refine zt (x:=bif false then decide ((c.work.length:Int)<=4) else false) rfl ⟨rfl,rfl⟩
  |true=>
   show AIf ..
   refine⟨fun _=>?_,fun h=>absurd ⟨(by rfl),trivial⟩ h⟩
   show ACall ..
   refine za (zhf c.epoch 0 1048576) rfl ?_
   show ARet ..
   refine zt (x:=bif decide (0<=c.epoch/\c.epoch<=1048576) then decide ((c.work.length:Int)<=4) else false) (by cases decide (0<=c.epoch/\c.epoch<=1048576)<;>rfl) ⟨rfl,rfl⟩
 ·rw[if_neg h0,show(c.phase==0)=false by simpa using h0]
  refine zNO (by decide) ?_
  show ACall ..
  refine za (zhf c.phase 0 6) rfl ?_
  cases hA:decide (0<=c.phase/\c.phase<=6) with
  |false=>
   show AIf ..
   refine⟨fun h=>absurd h.1 (by decide),fun _=>?_⟩
   show AOb ..
   refine⟨by decide,?_⟩
   show ARet ..
   refine zt (x:=bif false then decide ((c.work.length:Int)<=4) else false) rfl ⟨rfl,rfl⟩
  |true=>
   show AIf ..
   refine⟨fun _=>?_,fun h=>absurd ⟨(by rfl),trivial⟩ h⟩
   show ACall ..
   refine za (zhf c.epoch 1 1048576) rfl ?_
   show ARet ..
   refine zt (x:=bif decide (1<=c.epoch/\c.epoch<=1048576) then decide ((c.work.length:Int)<=4) else false) (by cases decide (1<=c.epoch/\c.epoch<=1048576)<;>rfl) ⟨rfl,rfl⟩
theorem zfZ (c:Col):Spec X 219 [] [c.tv] (Ret [] (.bo (decide (c.phase=0)))):=by
 refine zGO X_ok Tryz.f219 fun hb hH=>⟨rfl,?_⟩
 show ARet ..
 refine zt (x:=c.phase==0) rfl ⟨rfl,rfl⟩
theorem zj5 {c:Col} {m:Bool} (h:zay c≠0):zbS c m=Col.none:=by unfold zbS;rw[if_neg h]
theorem zrH {c:Col} {m:Bool} (h:zay c=0):zbS c m=⟨1,c.epoch+1,m,[],false,0,0,0,0,false⟩:=by unfold zbS;rw[if_pos h]
theorem zox (c:Col):(zbi c=false/\zay c=1)\/(zbi c=true/\c.phase≠0/\zay c=4)\/(zbi c=true/\c.phase=0/\c.epoch=1048576/\zay c=2)\/(zbi c=true/\c.phase=0/\c.epoch≠1048576/\zay c=0):=by
 unfold zay
 cases h:zbi c with
 |false=>exact .inl ⟨rfl,if_neg (by decide)⟩
 |true=>
  rw[if_pos rfl]
  by_cases h0:c.phase=0
  ·rw[if_pos h0]
   by_cases h1:c.epoch=1048576
   ·exact .inr (.inr (.inl ⟨rfl,h0,h1,if_pos h1⟩))
   ·exact .inr (.inr (.inr ⟨rfl,h0,h1,if_neg h1⟩))
  ·rw[if_neg h0]
   exact .inr (.inl ⟨rfl,h0,rfl⟩)
theorem zoX (c:Col) (m:Bool):Spec X 165 [] [c.tv,.bo m] (Ret [] (.tup [(zbS c m).tv,.int (zay c)])):=by
 refine zGO X_ok Tryz.f165 fun hb hH=>⟨rfl,?_⟩
 show ACall ..
 refine za (zgg c) rfl ?_
 rcases zox c with⟨h1,e⟩|⟨h1,h2,e⟩|⟨h1,h2,h3,e⟩|⟨h1,h2,h3,e⟩
 ·rw[zj5 (by omega),e,h1]
  refine zYE (by decide) ?_
  show ARet ..
  exact⟨[],[],[Col.none.tv,.int 1],.cons _ _ _ _ (.agg _ _ (.cons _ _ _ _ (.d _) (.cons _ _ _ _ (.d _) (.cons _ _ _ _ (.d _) (.cons _ _ _ _ (.nilsl .int) (zb rfl)))))) (.cons _ _ _ _ .same .nil),.nil,rfl,rfl,rfl⟩
 ·rw[zj5 (by omega),e,h1]
  refine zNO (by decide) ?_
  show ACall ..
  refine za (zfZ c) rfl ?_
  rw[decide_eq_false h2]
  refine zYE (by decide) ?_
  show ARet ..
  exact⟨[],[],[Col.none.tv,.int 4],.cons _ _ _ _ (.agg _ _ (.cons _ _ _ _ (.d _) (.cons _ _ _ _ (.d _) (.cons _ _ _ _ (.d _) (.cons _ _ _ _ (.nilsl .int) (zb rfl)))))) (.cons _ _ _ _ .same .nil),.nil,rfl,rfl,rfl⟩
 ·rw[zj5 (by omega),e,h1]
  refine zNO (by decide) ?_
  show ACall ..
  refine za (zfZ c) rfl ?_
  rw[decide_eq_true h2]
  refine zNO (by decide) ?_
  show ABr (c.epoch==1048576) _ _
  rw[show(c.epoch==1048576)=true by simpa using h3]
  refine zYE (by decide) ?_
  show ARet ..
  exact⟨[],[],[Col.none.tv,.int 2],.cons _ _ _ _ (.agg _ _ (.cons _ _ _ _ (.d _) (.cons _ _ _ _ (.d _) (.cons _ _ _ _ (.d _) (.cons _ _ _ _ (.nilsl .int) (zb rfl)))))) (.cons _ _ _ _ .same .nil),.nil,rfl,rfl,rfl⟩
 ·have hc:=zeT h1
  rw[zrH e,e,h1]
  refine zNO (by decide) ?_
  show ACall ..
  refine za (zfZ c) rfl ?_
  rw[decide_eq_true h2]
  refine zNO (by decide) ?_
  show ABr (c.epoch==1048576) _ _
  rw[show(c.epoch==1048576)=false by simpa using h3]
  refine zNO (by decide) ?_
  show ARet ..
  exact⟨[],[],[(⟨1,c.epoch+1,m,[],false,0,0,0,0,false⟩:Col).tv,.int 0],.cons _ _ _ _ (.agg _ _ (.cons _ _ _ _ (.d _) (.cons _ _ _ _ (.int_eq (zB (by omega) (by omega))) (.cons _ _ _ _ (.d _) (.cons _ _ _ _ (.nilsl .int) (zb rfl)))))) (.cons _ _ _ _ .same .nil),.nil,rfl,rfl,rfl⟩
theorem zdm (g:Hp) (c:Col) (hs:g.small) (hw:c.work.length<=zk):Spec X 159 [] [g.tv,c.tv] (Ret [] (.tup [g.tv,c.tv])):=by
 refine zGO X_ok Tryz.f159 fun hb hH=>⟨rfl,?_⟩
 obtain⟨h1,h2,h3,h4,h5,h6⟩:=hs
 show ADCall ..
 refine .mk _ _ (zd g.w h1) rfl ?_
 show ADCall ..
 refine .mk _ _ (zac g.pages h2) rfl ?_
 show ADCall ..
 refine .mk _ _ (zah g.cards h3) rfl ?_
 show ∃n,_
 refine⟨4,?_⟩
 show ALoop ..
 refine .next ?_
 refine zYE (by decide) ?_
 show AOb ..
 refine⟨by decide,?_⟩
 show ACall ..
 refine za (zd g.free.l0 h4) rfl ?_
 show AOb ..
 refine⟨by decide,?_⟩
 show ALoop ..
 refine .next ?_
 refine zYE (by decide) ?_
 show AOb ..
 refine⟨by decide,?_⟩
 show ACall ..
 refine za (zd g.free.l1 h5) rfl ?_
 show AOb ..
 refine⟨by decide,?_⟩
 show ALoop ..
 refine .next ?_
 refine zYE (by decide) ?_
 show AOb ..
 refine⟨by decide,?_⟩
 show ACall ..
 refine za (zd g.free.l2 h6) rfl ?_
 show AOb ..
 refine⟨by decide,?_⟩
 show ALoop ..
 refine .next ?_
 refine zNO (by decide) ?_
 show ACall ..
 refine za (zd c.work hw) rfl ?_
 show ARet ..
 exact zi rfl ⟨rfl,rfl⟩
theorem zkC (c:Col) (h:1<=c.phase) (h3:c.phase<=3):Spec X 161 [] [c.tv] (Ret [] (zgj c).tv):=by
 refine zGO X_ok Tryz.f161 fun hb hH=>⟨rfl,?_⟩
 have w:IntKind.i64.wrap (c.phase+1)=c.phase+1:=zB (by omega) (by omega)
 unfold zgj
 show ABr (IntKind.i64.wrap (c.phase+1)==4) _ _
 by_cases hp:c.phase=3
 ·rw[if_pos hp,show(IntKind.i64.wrap (c.phase+1)==4)=true by rw[w,hp];rfl]
  refine zYE (by decide) ?_
  show ABr c.major _ _
  cases hm:c.major with
  |true=>
   refine zYE (by decide) ?_
   show ARet ..
   exact zi rfl ⟨rfl,rfl⟩
  |false=>
   refine zNO (by decide) ?_
   show ARet ..
   refine zgL (.agg _ _ (.cons _ _ _ _ (.int_eq (y:=4) (by rw[w,hp];rfl)) (zb rfl))) ⟨rfl,rfl⟩
 ·rw[if_neg hp,show(IntKind.i64.wrap (c.phase+1)==4)=false by rw[w];simp;omega]
  refine zNO (by decide) ?_
  show ARet ..
  refine zgL (.agg _ _ (.cons _ _ _ _ (.int_eq (y:=c.phase+1) w) (zb rfl))) ⟨rfl,rfl⟩
theorem zgv (g:Hp) (c:Col) (l:List Thread) (hs:g.small) (hw:c.work.length<=zk) (h:1<=c.phase) (h3:c.phase<=3):Spec X 158 [] [g.tv,c.tv,.c (.d (.rp [.sl .thread l]))] (Ret [] (.tup [g.tv,(waitC c l).tv])):=by
 refine zGO X_ok Tryz.f158 fun hb hH=>⟨rfl,?_⟩
 show ACall ..
 refine za (zdm g c hs hw) rfl ?_
 show ACall ..
 refine za (zn1 c l) rfl ?_
 unfold waitC
 cases ha:zir c l with
 |true=>
  rw[if_pos rfl]
  refine zYE (by decide) ?_
  show ACall ..
  refine za (zkC c h h3) rfl ?_
  show ARet ..
  exact zi rfl ⟨rfl,rfl⟩
 |false=>
  rw[if_neg (by decide)]
  refine zNO (by decide) ?_
  show ARet ..
  exact zi rfl ⟨rfl,rfl⟩
theorem zk5 {g:Hp} {c:Col} {l:List Thread} (h:¬(zbi c=true/\c.phase≠0)):zbN g c l=(g,c):=by unfold zbN;rw[if_neg h]
theorem zd7 {g:Hp} {c:Col} {l:List Thread} (hm:zbi c=true) (h:1<=c.phase) (h3:c.phase<=3):zbN g c l=(g,waitC c l):=by unfold zbN;rw[if_pos ⟨hm,by omega⟩,if_neg (by omega),if_neg (by omega),if_neg (by omega)]
theorem zwG {g:Hp} {c:Col} {l:List Thread} (hm:zbi c=true) (h:c.phase=4):zbN g c l=zhY g c:=by unfold zbN;rw[if_pos ⟨hm,by omega⟩,if_pos h]
theorem zvF {g:Hp} {c:Col} {l:List Thread} (hm:zbi c=true) (h:c.phase=5):zbN g c l=zfa g c:=by unfold zbN;rw[if_pos ⟨hm,by omega⟩,if_neg (by omega),if_pos h]
theorem zvT {g:Hp} {c:Col} {l:List Thread} (hm:zbi c=true) (h:c.phase=6):zbN g c l=ze8 g c:=by unfold zbN;rw[if_pos ⟨hm,by omega⟩,if_neg (by omega),if_neg (by omega),if_pos h]
set_option maxHeartbeats 4000000 in
theorem zpn (g:Hp) (c:Col) (l:List Thread) (hl:g.light) (hs:g.small) (hw:c.work.length<zk):Spec X 117 [] [g.tv,c.tv,.c (.d (.sl .thread l))] (Ret [] (.tup [(zbN g c l).1.tv,(zbN g c l).2.tv])):=by
 obtain⟨ph,ep,mj,wk,ov,ca,cf,ck,cc,cm⟩:=c
 refine Spec.fb (zGO zzH Tryz.f117 fun hb hH=>⟨rfl,?_⟩)
 show ACall ..
 refine za ((zgg ⟨ph,ep,mj,wk,ov,ca,cf,ck,cc,cm⟩).ub) rfl ?_
 cases hm:zbi ⟨ph,ep,mj,wk,ov,ca,cf,ck,cc,cm⟩ with
 |false=>
  rw[zk5 (fun k=>by rw[hm]at k;cases k.1)]
  refine zYE (by decide) ?_
  show ACall ..
  refine za ((zdm g ⟨ph,ep,mj,wk,ov,ca,cf,ck,cc,cm⟩ hs (by omega)).ub) rfl ?_
  show ARet ..
  exact zi rfl ⟨rfl,rfl⟩
 |true=>
  refine zNO (by decide) ?_
  obtain⟨m1,m2,_⟩:=zeT hm
  have hc:ph=0\/ph=1\/ph=2\/ph=3\/ph=4\/ph=5\/ph=6:=by
   have m1:0<=ph:=m1
   have m2:ph<=6:=m2
   omega
  rcases hc with e|e|e|e|e|e|e
  ·subst e
   rw[zk5 (fun k=>k.2 rfl)]
   show AOb ((0:Int)<=0/\(0:Int)<7) _
   refine⟨by decide,?_⟩
   show ADCall ..
   refine .mk _ _ ((zdm g _ hs (by omega)).ub) rfl ?_
   show ARet ..
   exact zi rfl ⟨rfl,rfl⟩
  ·subst e
   rw[zd7 hm (by show(1:Int)<=1;decide) (by show(1:Int)<=3;decide)]
   show AOb ((0:Int)<=1/\(1:Int)<7) _
   refine⟨by decide,?_⟩
   show ADCall ..
   refine .mk _ _ ((zgv g _ l hs (by omega) (by show(1:Int)<=1;decide) (by show(1:Int)<=3;decide)).ub) rfl ?_
   show ARet ..
   exact zi rfl ⟨rfl,rfl⟩
  ·subst e
   rw[zd7 hm (by show(1:Int)<=2;decide) (by show(2:Int)<=3;decide)]
   show AOb ((0:Int)<=2/\(2:Int)<7) _
   refine⟨by decide,?_⟩
   show ADCall ..
   refine .mk _ _ ((zgv g _ l hs (by omega) (by show(1:Int)<=2;decide) (by show(2:Int)<=3;decide)).ub) rfl ?_
   show ARet ..
   exact zi rfl ⟨rfl,rfl⟩
  ·subst e
   rw[zd7 hm (by show(1:Int)<=3;decide) (by show(3:Int)<=3;decide)]
   show AOb ((0:Int)<=3/\(3:Int)<7) _
   refine⟨by decide,?_⟩
   show ADCall ..
   refine .mk _ _ ((zgv g _ l hs (by omega) (by show(1:Int)<=3;decide) (by show(3:Int)<=3;decide)).ub) rfl ?_
   show ARet ..
   exact zi rfl ⟨rfl,rfl⟩
  ·subst e
   rw[zwG hm rfl]
   show AOb ((0:Int)<=4/\(4:Int)<7) _
   refine⟨by decide,?_⟩
   show ADCall ..
   refine .mk _ _ ((zlu g _ hl hs hw).ub) rfl ?_
   show ARet ..
   exact zi rfl ⟨rfl,rfl⟩
  ·subst e
   rw[zvF hm rfl]
   show AOb ((0:Int)<=5/\(5:Int)<7) _
   refine⟨by decide,?_⟩
   show ADCall ..
   refine .mk _ _ ((zlY g _ hl hs hw).ub) rfl ?_
   show ARet ..
   exact zi rfl ⟨rfl,rfl⟩
  ·subst e
   rw[zvT hm rfl]
   show AOb ((0:Int)<=6/\(6:Int)<7) _
   refine⟨by decide,?_⟩
   show ADCall ..
   refine .mk _ _ ((zkr g _ hl hs (by omega)).ub) rfl ?_
   show ARet ..
   exact zi rfl ⟨rfl,rfl⟩
end Go.Abs
