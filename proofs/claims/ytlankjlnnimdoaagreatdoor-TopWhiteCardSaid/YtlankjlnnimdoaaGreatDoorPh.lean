/- Walks and plain laws: WCycleK, WWorldK, WCycleP, WArena2, WScan, WTrace, WHand, WHand2, WHand4, WCycle, WWorld, WTopA. -/
import Derived.Test.YtlankjlnnimdoaaGreatDoorPg
import Derived.Test.YtlankjlnnimdoaaGreatDoorPd
import Derived.Test.YtlankjlnnimdoaaGreatDoorPb
set_option linter.all false
namespace Go.Abs
set_option maxRecDepth 8000
def za1 (c:Col):Bool:=decide (0<=c.phase/\c.phase<=6/\(if c.phase=0 then 0 else 1)<=c.epoch/\c.epoch<=1048576/\(c.work.length:Int)<=4)
def Col.none:Col:=⟨0,0,false,[],false,0,0,0,0,false⟩
def zaw (c:Col):Int:=if za1 c=true then (if c.phase=0 then (if c.epoch=1048576 then 2 else 0) else 4) else 1
def zbx (c:Col) (major:Bool):Col:=if zaw c=0 then ⟨1,c.epoch+1,major,[],false,0,0,0,0,false⟩ else Col.none
def zhj (c:Col):Col:=if c.phase=3 then {c with phase:=if c.major=true then 5 else 4,at_:=0,field_:=0,seek:=0,card:=0,met:=false} else {c with phase:=c.phase+1}
def zmn (c:Col) (l:List Thread):Col:=if zju c l=true then zhj c else c
def zb5 (g:Hp) (c:Col) (l:List Thread):Hp×Col:=
 if za1 c=true/\c.phase≠0 then
  (if c.phase=4 then zj6 g c else if c.phase=5 then zgf g c else if c.phase=6 then zfS g c else (g,zmn c l))
 else (g,c)
inductive CStep (g:Hp) (c:Col) (l:List Thread):Hp->Col->Prop
 |idle (h:¬(za1 c=true/\c.phase≠0)):CStep g c l g c
 |stay (hm:za1 c=true) (h1:1<=c.phase) (h3:c.phase<=3) (ha:zju c l=false):CStep g c l g c
 |next (hm:za1 c=true) (h1:1<=c.phase) (h3:c.phase<=3) (ha:zju c l=true):CStep g c l g (zhj c)
 |scan (hm:za1 c=true) (hp:c.phase=4) {k:Hp} {d:Col} (s:SStep g c k d):CStep g c l k d
 |trace (hm:za1 c=true) (hp:c.phase=5) {k:Hp} {d:Col} (s:TStep g c k d):CStep g c l k d
 |sweep (hm:za1 c=true) (hp:c.phase=6) {k:Hp} {d:Col} (s:SwStep g c k d):CStep g c l k d
theorem zdy {c:Col} (h:za1 c=true):0<=c.phase/\c.phase<=6/\0<=c.epoch/\(c.phase≠0->1<=c.epoch)/\c.epoch<=1048576/\c.work.length<=4:=by
 obtain⟨h1,h2,h3,h4,h5⟩:=of_decide_eq_true h
 refine⟨h1,h2,?_,fun hp=>?_,h4,by omega⟩
 ·by_cases hp:c.phase=0
  ·rw[if_pos hp]at h3;omega
  ·rw[if_neg hp]at h3;omega
 ·rw[if_neg hp]at h3;omega
theorem zsj {c:Col} (h1:0<=c.phase) (h2:c.phase<=6) (h3:0<=c.epoch) (h4:c.phase≠0->1<=c.epoch) (h5:c.epoch<=1048576) (h6:c.work.length<=4):za1 c=true:=by
 refine decide_eq_true ⟨h1,h2,?_,h5,by omega⟩
 by_cases hp:c.phase=0
 ·rw[if_pos hp];omega
 ·rw[if_neg hp];exact h4 hp
theorem zfe (g:Hp) (c:Col) (l:List Thread):CStep g c l (zb5 g c l).1 (zb5 g c l).2:=by
 unfold zb5
 by_cases h:za1 c=true/\c.phase≠0
 ·rw[if_pos h]
  obtain⟨hm,h0⟩:=h
  obtain⟨m1,m2,_⟩:=zdy hm
  by_cases h4:c.phase=4
  ·rw[if_pos h4];exact .scan hm h4 (zut g c)
  ·rw[if_neg h4]
   by_cases h5:c.phase=5
   ·rw[if_pos h5];exact .trace hm h5 (zsp g c)
   ·rw[if_neg h5]
    by_cases h6:c.phase=6
    ·rw[if_pos h6];exact .sweep hm h6 (zrZ g c)
    ·rw[if_neg h6]
     show CStep g c l g (zmn c l)
     unfold zmn
     cases ha:zju c l with
     |true=>rw[if_pos rfl];exact .next hm (by omega) (by omega) ha
     |false=>rw[if_neg (by decide)];exact .stay hm (by omega) (by omega) ha
 ·rw[if_neg h];exact .idle h
theorem zeA (g:Hp) (c:Col) (v:Int) (h:c.work.length<=4):(zE g c v).work.length<=4:=by
 by_cases e:atK g c v=1
 ·rw[zfn e]
  split
  ·show(c.work++[v]).length<=_
   rw[List.length_append,List.length_singleton]
   omega
  ·exact h
 ·rw[zgD e];exact h
theorem zmu (g:Hp) (c:Col) (v:Int) (h:c.work.length<=4):(zdm g c v).2.work.length<=4:=by
 rcases zcP g c v with⟨_,e⟩|⟨_,e⟩<;>rw[e]
 ·exact zeA g c v h
 ·exact h
theorem SStep.col {g k:Hp} {c d:Col} (s:SStep g c k d):d.epoch=c.epoch/\d.major=c.major/\(d.phase=c.phase\/c.phase=4/\d.phase=5)/\(c.work.length<=4->d.work.length<=4):=by
 cases s
 case last v hv=>obtain⟨e1,e2,e3,_⟩:=ztm g c v;exact⟨e2,e3,.inl e1,zmu g c v⟩
 case more v hv=>obtain⟨e1,e2,e3,_⟩:=ztm g c v;exact⟨e2,e3,.inl e1,zmu g c v⟩
 case fin=>exact⟨rfl,rfl,.inr ⟨by assumption,rfl⟩,id⟩
 all_goals exact⟨rfl,rfl,.inl rfl,id⟩
theorem TStep.work4 {g k:Hp} {c d:Col} (h:TStep g c k d) (h1:c.work.length<=4):d.work.length<=4:=by
 cases h
 case last v hv=>exact zeA g c v h1
 case more v hv=>exact zeA g c v h1
 case pop r x hw=>
  rw[hw,List.length_append]at h1
  show r.length<=_
  omega
 all_goals exact h1
theorem SwStep.ph {g k:Hp} {c d:Col} (s:SwStep g c k d):d.phase=c.phase\/c.phase=6/\d.phase=0:=by
 cases s<;>first|exact .inl rfl|exact .inr ⟨by assumption,rfl⟩
theorem CStep.col {g k:Hp} {c d:Col} {l:List Thread} (s:CStep g c l k d) :
  d.epoch=c.epoch/\d.major=c.major/\(d.phase=c.phase/\(c.phase=0\/za1 c=false\/4<=c.phase\/zju c l=false) \/
   (1<=c.phase/\c.phase<=2/\zju c l=true/\d.phase=c.phase+1)\/(c.phase=3/\zju c l=true/\d.phase=if c.major=true then 5 else 4)\/(4<=c.phase/\c.phase<=5/\d.phase=c.phase+1)\/(c.phase=6/\d.phase=0))/\(c.work.length<=4->d.work.length<=4):=by
 cases s
 case idle h=>
  refine⟨rfl,rfl,.inl ⟨rfl,?_⟩,id⟩
  by_cases h0:c.phase=0
  ·exact .inl h0
  ·exact .inr (.inl (by simpa using fun k=>h ⟨k,h0⟩))
 case stay ha=>exact⟨rfl,rfl,.inl ⟨rfl,.inr (.inr (.inr (by assumption)))⟩,id⟩
 case next hm h1 h3 ha=>
  unfold zhj
  by_cases hp:c.phase=3
  ·rw[if_pos hp]
   exact⟨rfl,rfl,.inr (.inr (.inl ⟨hp,ha,rfl⟩)),id⟩
  ·rw[if_neg hp]
   exact⟨rfl,rfl,.inr (.inl ⟨h1,by omega,ha,rfl⟩),id⟩
 case scan hm hp s=>
  obtain⟨e1,e2,e3,e4⟩:=s.col
  refine⟨e1,e2,?_,e4⟩
  rcases e3 with e|⟨_,e⟩
  ·exact .inl ⟨e,.inr (.inr (.inl (by omega)))⟩
  ·exact .inr (.inr (.inr (.inl ⟨by omega,by omega,by omega⟩)))
 case trace hm hp s=>
  obtain⟨e1,e2,e3⟩:=s.col
  refine⟨e1,e2,?_,s.work4⟩
  rcases e3 with e|⟨_,e⟩
  ·exact .inl ⟨e,.inr (.inr (.inl (by omega)))⟩
  ·exact .inr (.inr (.inr (.inl ⟨by omega,by omega,by omega⟩)))
 case sweep hm hp s=>
  obtain⟨e1,e2⟩:=s.col
  refine⟨e1,e2,?_,fun h=>?_⟩
  ·rcases s.ph with e|e
   ·exact .inl ⟨e,.inr (.inr (.inl (by omega)))⟩
   ·exact .inr (.inr (.inr (.inr e)))
  ·rcases s.work with e|e<;>rw[e]
   ·exact h
   ·exact Nat.zero_le _
structure Wd where
 h:Hp
 c:Col
 t:List Thread
 log:List Res
def Wd.cells (w:Wd):List DV:=w.h.enc++(w.c.enc++[.sl .thread w.t,.sl .res w.log])
abbrev Wd.tv (w:Wd):TV:=.dagg w.cells
abbrev wdO (w:Wd) (bt bl:Nat):List CV:=(w.h.enc++w.c.enc).map CV.d++[.own bt,.own bl]
def Wd.zero:Wd:=⟨Hp.zero,⟨0,0,false,[],false,0,0,0,0,false⟩,[],[]⟩
def zY (w:Wd):List Lists:=w.t.map (·.cache)
def zaP (w:Wd):Bool:=decide (w.t.length<=4)&&(!(w.t.any fun t=>!decide t.mayT)&&(za1 w.c&&zt w.h (zY w)))
def zeb (w:Wd) (n:Int):Bool:=decide (0<=n/\n<(w.t.length:Int))
abbrev thW (w:Wd) (n:Int):Thread:=w.t.getD n.toNat default
def zqW (w:Wd) (n:Int) (m:Mu):List Res:=if m.told=true then w.log++[{m.r with thread:=n}] else w.log
def zdv (w:Wd) (n:Int):Bool:=!(thW w n).live || (!zaz w.c (thW w n)&&decide ((thW w n).ops.length=0))
def stepW (w:Wd) (n:Int):Wd:=
 if zeb w n=false then w else if zdv w n=true then w
 else if zaz w.c (thW w n)=true then ⟨ansG w.h w.c (thW w n),ansC w.h w.c (thW w n),w.t.set n.toNat (ansT w.c (thW w n)),w.log⟩
 else ⟨(mutS w.h w.c (thW w n)).h,(mutS w.h w.c (thW w n)).c,w.t.set n.toNat (mutS w.h w.c (thW w n)).t,zqW w n (mutS w.h w.c (thW w n))⟩
def zcm (w:Wd) (n:Int):Int:=if zeb w n=false then 3 else if zdv w n=true then 3 else 0
def colW (w:Wd):Wd:={w with h:=(zb5 w.h w.c w.t).1,c:=(zb5 w.h w.c w.t).2}
def startW (w:Wd) (m:Bool):Wd:=if zaw w.c=0 then {w with c:=zbx w.c m} else w
def zdJ (w:Wd) (n:Int):Bool:=(thW w n).live || decide ((thW w n).ops.length=0)
def beginW (w:Wd) (n:Int):Wd:=if zeb w n=false then w else if zdJ w n=true then w else {w with t:=w.t.set n.toNat (beginT w.c (thW w n) w.t)}
def beginWE (w:Wd) (n:Int):Int:=if zeb w n=false then 3 else if zdJ w n=true then 4 else 0
def doW1 (w:Wd) (e:Pair):Wd:=
 if e.fst=0 then stepW w e.snd else if e.fst=1 then colW w else if e.fst=2 then startW w false else if e.fst=3 then startW w true else if e.fst=4 then beginW w e.snd else w
def doE1 (w:Wd) (e:Pair):Int:=
 if e.fst=0 then zcm w e.snd else if e.fst=1 then 0 else if e.fst=2 then zaw w.c else if e.fst=3 then zaw w.c else if e.fst=4 then beginWE w e.snd else 1
def doW (w:Wd) (e:Pair):Wd:=if zaP w=true then doW1 w e else w
def doWE (w:Wd) (e:Pair):Int:=if zaP w=true then doE1 w e else 1
def madeW (n:Int) (l:List (List Op)):Wd:=if newE n≠0 then Wd.zero else if l.any (fun x=>decide (4<l.length\/200<x.length)) then Wd.zero else ⟨newH n,Wd.zero.c,l.map fun o=>{Thread.zero with ops:=o},[]⟩
def zeI (n:Int) (l:List (List Op)):Int:=if newE n≠0 then newE n else if l.any (fun x=>decide (4<l.length\/200<x.length)) then 2 else 0
structure Wd.Fit (w:Wd):Prop where
 small:w.h.small
 work:w.c.work.length<zi
 len:w.t.length<=4
 th:∀t∈w.t,t.ok/\t.cache.ok
 flat:(flats (zec w.h (zY w))).length<=zi
 log:w.log.length<zi
def zbK (w:Wd) (m:Bool):Wd:=doW w ⟨if m=true then 3 else 2,0⟩
def runW (w:Wd) (l:List Pair):Wd:=l.foldl doW w
theorem zmr (w:Wd) {l:List Pair} {i:Nat} (h:i<l.length):runW w (l.take (i+1))=doW (runW w (l.take i)) (l.getD i default):=by
 unfold runW
 rw[List.take_add_one,List.getElem?_eq_getElem h,List.getD_eq_getElem?_getD,List.getElem?_eq_getElem h,List.foldl_append]
 rfl
def base (n:Int):Int:=n*n / 4+4*n+111
open Go.Proofs Go.Proofs.YtlankjlnnimdoaaGreatDoor
theorem Marks.light {g k:Hp} (h:Marks g k) (hl:g.light):k.light:=by unfold Hp.light;rw[h.free];exact hl
theorem Marks.small {g k:Hp} (h:Marks g k) (hs:g.small):k.small:=by unfold Hp.small;rw[h.free,h.pages,h.cards,h.len];exact hs
theorem zsD (w:List Int) (a:Int) (hw:zba w=true) (ha:16<=a/\a<16+w.length):Spec X 236 [] [.c (.d (.sl .int w)),.int a,.int 1] (Ret [] (.tup [.c (.d (.sl .int ((w.drop (a-16).toNat).take 1))),.int 0])):=by
 refine zGO X_ok Tryz.f236 fun hb hH=>⟨rfl,?_⟩
 show ACall ..
 refine za (zfc w) rfl ?_
 rw[hw]
 show ABr (!true) _ _
 refine zNO (by decide) ?_
 refine zNO (by decide) ?_
 have h1:w.length<=1024:=by have:=of_decide_eq_true hw;omega
 have e1:IntKind.i64.wrap (a-16)=a-16:=zu (by omega) (by omega)
 have e2:IntKind.i64.wrap ((w.length:Int)-(a-16))=w.length-(a-16):=zu (by omega) (by omega)
 show ABr (bif decide ((1:Int)>0) then (bif (bif decide (a<16) then true else decide (IntKind.i64.wrap (a-16)>=(w.length:Int))) then true else decide ((1:Int)>IntKind.i64.wrap ((w.length:Int)-IntKind.i64.wrap (a-16)))) else false) _ _
 rw[e1,e2]
 refine⟨fun h=>?_,fun _=>?_⟩
 ·exfalso
  have g1:decide (a<16)=false:=decide_eq_false (by omega)
  have g2:decide (a-16>=(w.length:Int))=false:=decide_eq_false (by omega)
  have g3:decide ((1:Int)>(w.length:Int)-(a-16))=false:=decide_eq_false (by omega)
  rw[g1,g2,g3]at h
  exact absurd h (by decide)
 ·refine zNO (by decide) ?_
  show AOb ((0:Int)<=IntKind.i64.wrap (a-16)/\IntKind.i64.wrap (a-16)<=(w.length:Int)) _
  rw[e1]
  refine⟨by omega,?_⟩
  have hdl:(w.drop (a-16).toNat).length=w.length-(a-16).toNat:=List.length_drop
  show AOb ((0:Int)<=1/\(1:Int)<=1/\(1:Int)<=(((w.drop (a-16).toNat).length:Nat):Int)) _
  refine⟨by omega,?_⟩
  show ARet ..
  exact zg rfl ⟨rfl,rfl⟩
theorem zgP (w:List Int) (a:Int) (hw:zba w=true) (ha:16<=a/\a<16+w.length):Spec X 194 [] [.c (.d (.sl .int w)),.int a] (Ret [] (.tup [.int (at0 w (a-16).toNat),.int 0])):=by
 refine zGO X_ok Tryz.f194 fun hb hH=>⟨rfl,?_⟩
 show ACall ..
 refine za (zsD w a hw ha) rfl ?_
 have hdl:((w.drop (a-16).toNat).take 1).length=1:=by rw[List.length_take,List.length_drop];omega
 refine zNO (by decide) ?_
 show AOb ((0:Int)<=0/\(0:Int)<((((w.drop (a-16).toNat).take 1).length:Nat):Int)) _
 refine⟨by omega,?_⟩
 have hv:((w.drop (a-16).toNat).take 1).getD 0 default=at0 w (a-16).toNat:=by
  unfold at0
  simp[List.getD_eq_getElem?_getD]
 show ARet ..
 exact⟨[],[],[.int (at0 w (a-16).toNat),.int 0],.cons _ _ _ _ (.int_eq hv) (.cons _ _ _ _ .same .nil),.nil,rfl,rfl,rfl⟩
theorem zu9 {g:Hp} (h:∀x∈g.w,I64 x) (a:Int) {v:Int} (hv:I64 v):∀x∈(zbT g a v).w,I64 x:=by
 intro x hx
 rcases List.mem_or_eq_of_mem_set hx with e|e
 ·exact h x e
 ·rw[e];exact hv
theorem znq {x:Hd} (h:x.May):I64 x.word:=by
 have:=zkV h
 unfold I64
 omega
theorem ziU {g:Hp} (h:∀x∈g.w,I64 x) (c:Col) (a:Int):∀x∈(zJ g c a).w,I64 x:=by
 unfold zJ
 by_cases e:atK g c a=1
 ·rw[decide_eq_true e]
  obtain⟨_,h1,h2⟩:=zb8 e
  show ∀x∈(zhM g a (zhi g c a)).w,I64 x
  rw[zeV h2]
  exact zu9 h a (znq h1.xmay)
 ·rw[decide_eq_false e];exact h
theorem zwZ {g:Hp} (h:∀x∈g.w,I64 x) (c:Col) (a:Int):∀x∈(zan g c a).w,I64 x:=by
 unfold zan
 by_cases e:atK g c a=2
 ·rw[decide_eq_true e]
  obtain⟨_,h1,h2⟩:=zcd e
  show ∀x∈(zhM g a (zhc g a)).w,I64 x
  rw[zeV h2]
  exact zu9 h a (znq h1.xmay)
 ·rw[decide_eq_false e];exact h
def wkV (g:Hp) (c:Col):List CV:=(g.enc++c.enc).map .d
theorem ztA (g:Hp) (c:Col) (hs:g.small) (hw:c.work.length<=zi):Spec X 205 [] [g.tv,c.tv] (Ret [(0,.vars (wkV g c))] (.c (.ptr 0 0 0))):=by
 refine zGO X_ok Tryz.f205 fun hb hH=>⟨rfl,?_⟩
 obtain⟨h1,h2,h3,h4,h5,h6⟩:=hs
 show ADCall ..
 refine .mk _ _ (zd g.w h1) rfl ?_
 show ADCall ..
 refine .mk _ _ (zab g.pages h2) rfl ?_
 show ADCall ..
 refine .mk _ _ (zae g.cards h3) rfl ?_
 show ∃n,_
 refine⟨4,?_⟩
 show ALoop ..
 refine .next ?_
 refine zYE (by decide) ?_
 show AOb ..
 refine⟨by decide,?_⟩
 show ACall ..
 refine za (zd g.free.l0 h4) rfl ?_
 show AOb ..
 refine⟨by decide,?_⟩
 show ALoop ..
 refine .next ?_
 refine zYE (by decide) ?_
 show AOb ..
 refine⟨by decide,?_⟩
 show ACall ..
 refine za (zd g.free.l1 h5) rfl ?_
 show AOb ..
 refine⟨by decide,?_⟩
 show ALoop ..
 refine .next ?_
 refine zYE (by decide) ?_
 show AOb ..
 refine⟨by decide,?_⟩
 show ACall ..
 refine za (zd g.free.l2 h6) rfl ?_
 show AOb ..
 refine⟨by decide,?_⟩
 show ALoop ..
 refine .next ?_
 refine zNO (by decide) ?_
 show ACall ..
 refine za (zd c.work hw) rfl ?_
 show ARet ..
 exact⟨[(_,0)],[(0,.vars (wkV g c))],[.c (.ptr 0 0 0)],.cons _ _ _ _ (.c _ _ (.ptr1 _ _ _ _)) .nil,.old 0 _ _ _ _ rfl rfl (.vars _ _ (zb rfl)) .nil,rfl,rfl,rfl⟩
theorem zdn (g:Hp) (c:Col) (a:Int):Spec X 206 [(16,.vars (wkV g c))] [.c (.ptr 16 0 0),.int a] (fun H r=>H=[(16,.vars (wkV g {c with at_:=a,field_:=0}))]/\r = .tup []):=by
 refine zGO X_ok Tryz.f206 fun hb hH=>⟨rfl,?_⟩
 show ARet ..
 exact⟨[(16,16)],[(16,.vars (wkV g {c with at_:=a,field_:=0}))],[],.nil,.old 16 16 _ _ _ rfl rfl (.vars _ _ (zb rfl)) .nil,rfl,rfl,rfl⟩
theorem zqU (g:Hp) (c:Col) (a:Int) (hl:g.light):Spec X 243 [] [.c (.d (.rp (g.enc++c.enc))),.int a] (Ret [] (.bo (zd9 g a))):=by
 refine zGO X_ok Tryz.f243 fun hb hH=>⟨rfl,?_⟩
 show ACall ..
 refine za (zaI g a hl) rfl ?_
 show ARet ..
 refine zo (x:=bif decide (headE g a=0) then !(headH g a).old else false) ?_ ⟨rfl,rfl⟩
 unfold zd9
 cases decide (headE g a=0)<;>rfl
theorem zr1 (g:Hp) (c:Col):Spec X 245 [] [.c (.d (.rp (g.enc++c.enc)))] (Ret [] (.int (IntKind.i64.wrap (16+IntKind.i64.wrap (8*c.card))))):=by
 refine zGO X_ok Tryz.f245 fun hb hH=>⟨rfl,?_⟩
 show ARet ..
 exact zg rfl ⟨rfl,rfl⟩
theorem zvj {g:Hp} (hm:zw g []=true) {n:Int} (h0:0<=n) (hc:n<(g.cards.length:Int)):IntKind.i64.wrap (n+1)=n+1:=by
 obtain⟨_,_,_,h4,_,h64⟩:=zm (zF hm)
 exact zu (by omega) (by omega)
theorem zvb {g:Hp} (hm:zw g []=true) {n:Int} (h0:0<=n) (hc:n<(g.cards.length:Int)):zco g n=cset g n false:=by
 apply zr4
 unfold zeP
 rw[hm,decide_eq_true ⟨h0,hc⟩]
 rfl
theorem zpI (g:Hp) (c:Col) (hl:g.light) (hm:zw g []=true) (h0:0<=c.card) (hc:c.card<(g.cards.length:Int)):Spec X 207 [(16,.vars (wkV g c))] [.c (.ptr 16 0 0)] (fun H r=>H=[(16,.vars (wkV (zo2 g c).1 (zo2 g c).2))]/\r = .tup []):=by
 refine zGO X_ok Tryz.f207 fun hb hH=>⟨rfl,?_⟩
 show AOb ((0:Int)<=c.card/\c.card<(g.cards.length:Int)) _
 refine⟨⟨h0,hc⟩,?_⟩
 unfold zo2
 show ABr (!g.cards.getD c.card.toNat false) _ _
 cases hd:g.cards.getD c.card.toNat false with
 |false=>
  rw[if_neg (by decide)]
  refine zYE (by decide) ?_
  have wc:=zvj hm h0 hc
  show ARet ..
  exact⟨[(16,16)],[(16,.vars (wkV g {c with card:=c.card+1}))],[],.nil,.old 16 16 _ _ _ rfl rfl (.vars _ _ (by repeat' first|exact .nil|refine .cons _ _ _ _ ?_ ?_|exact .d _|exact .int_eq wc)) .nil,rfl,rfl,rfl⟩
 |true=>
  rw[if_pos rfl,←zvb hm h0 hc]
  refine zNO (by decide) ?_
  show ADCall ..
  refine .mk _ _ (zsd g c.card hl) rfl ?_
  show ACall ..
  refine .hand [(16,16)] [(16,.vars (wkV (zco g c.card) {c with seek:=1,met:=false}))] [.c (.ptr 16 0 0),.int 0] _ (.cons _ _ _ _ (.c _ _ (.ptr _ _ _ _ rfl)) (.cons _ _ _ _ .same .nil)) (.old 16 16 _ _ _ rfl rfl (.vars _ _ (zb rfl)) .nil) rfl (zdn (zco g c.card) {c with seek:=1,met:=false} 0) ?_
  rintro H r ⟨rfl,rfl⟩ _ _
  refine⟨rfl,.inl rfl,?_⟩
  show ARet ..
  exact⟨[(16,16)],[(16,.vars (wkV (zco g c.card) {c with seek:=1,met:=false,at_:=0,field_:=0}))],[],.nil,.old 16 16 _ _ _ rfl rfl (.vars _ _ (by repeat' first|exact .nil|refine .cons _ _ _ _ ?_ ?_|exact .d _|exact .int_eq rfl)) .nil,rfl,rfl,rfl⟩
set_option maxRecDepth 60000 in
set_option maxHeartbeats 2000000 in
theorem zqD (g:Hp) (c:Col) (hl:g.light) (hs:g.small) (hk:c.work.length<zi):Spec X 208 [(16,.vars (wkV g c))] [.c (.ptr 16 0 0)] (fun H r=>H=[(16,.vars (wkV (zoC g c).1 (zoC g c).2))]/\r = .tup []):=by
 refine zGO X_ok Tryz.f208 fun hb hH=>⟨rfl,?_⟩
 show ADCall ..
 refine .mk _ _ (zaI g c.at_ hl) rfl ?_
 unfold zoC
 by_cases hE:headE g c.at_=0
 ·show ABr (!decide (headE g c.at_=0)) _ _
  rw[decide_eq_true hE]
  refine zNO (by decide) ?_
  by_cases hf:c.field_<0
  ·show ABr (decide (c.field_<0)) _ _
   rw[decide_eq_true hf,if_pos (.inr (.inl hf))]
   refine zYE (by decide) ?_
   refine zYE (by decide) ?_
   show ACall ..
   refine .hand [(16,16)] [(16,.vars (wkV g c))] [.c (.ptr 16 0 0),.int 0] _ (.cons _ _ _ _ (.c _ _ (.ptr _ _ _ _ rfl)) (.cons _ _ _ _ .same .nil)) (.old 16 16 _ _ _ rfl rfl (.vars _ _ (zb rfl)) .nil) rfl (zdn g c 0) ?_
   rintro H r ⟨rfl,rfl⟩ _ _
   refine⟨rfl,.inl rfl,?_⟩
   show ARet ..
   exact⟨[(16,16)],[(16,.vars (wkV g {c with at_:=0,field_:=0}))],[],.nil,.old 16 16 _ _ _ rfl rfl (.vars _ _ (by repeat' first|exact .nil|refine .cons _ _ _ _ ?_ ?_|exact .d _|exact .int_eq rfl)) .nil,rfl,rfl,rfl⟩
  ·show ABr (decide (c.field_<0)) _ _
   rw[decide_eq_false hf]
   refine zNO (by decide) ?_
   by_cases hn:(headH g c.at_).n<=c.field_
   ·show ABr (decide (c.field_>=(headH g c.at_).n)) _ _
    rw[decide_eq_true (show c.field_>=(headH g c.at_).n from hn),if_pos (.inr (.inr hn))]
    refine zYE (by decide) ?_
    show ACall ..
    refine .hand [(16,16)] [(16,.vars (wkV g c))] [.c (.ptr 16 0 0),.int 0] _ (.cons _ _ _ _ (.c _ _ (.ptr _ _ _ _ rfl)) (.cons _ _ _ _ .same .nil)) (.old 16 16 _ _ _ rfl rfl (.vars _ _ (zb rfl)) .nil) rfl (zdn g c 0) ?_
    rintro H r ⟨rfl,rfl⟩ _ _
    refine⟨rfl,.inl rfl,?_⟩
    show ARet ..
    exact⟨[(16,16)],[(16,.vars (wkV g {c with at_:=0,field_:=0}))],[],.nil,.old 16 16 _ _ _ rfl rfl (.vars _ _ (by repeat' first|exact .nil|refine .cons _ _ _ _ ?_ ?_|exact .d _|exact .int_eq rfl)) .nil,rfl,rfl,rfl⟩
   ·show ABr (decide (c.field_>=(headH g c.at_).n)) _ _
    rw[decide_eq_false (show ¬c.field_>=(headH g c.at_).n from hn),if_neg (fun k=>by rcases k with k|k|k;exact k hE;exact hf k;exact hn k)]
    refine zNO (by decide) ?_
    have h0:0<=c.field_:=by omega
    obtain⟨hm,hr,_⟩:=zG hE
    obtain⟨hmw,_,hlen,_,_,h64⟩:=zm (zF hm)
    obtain⟨⟨a1,a2⟩,_⟩:=ze7 (f:=c.field_+1) hE (by omega) (by omega)
    have ha16:=(zak (h:=g) hr).1
    have w1:IntKind.i64.wrap (c.at_+1)=c.at_+1:=zu (by omega) (by omega)
    have w2:IntKind.i64.wrap (c.at_+1+c.field_)=c.at_+1+c.field_:=zu (by omega) (by omega)
    have w3:IntKind.i64.wrap (c.field_+1)=c.field_+1:=zu (by omega) (by omega)
    have hv:at0 g.w (IntKind.i64.wrap (IntKind.i64.wrap (c.at_+1)+c.field_)-16).toNat=wordOf g (c.at_+1+c.field_):=by
     rw[w1,w2]
     unfold wordOf zf
     rw[if_pos ⟨hmw,by omega,by omega⟩]
    generalize wordOf g (c.at_+1+c.field_)=v at hv
    show ADCall ..
    refine .mk _ _ (zgP g.w (IntKind.i64.wrap (IntKind.i64.wrap (c.at_+1)+c.field_)) hmw (by rw[w1,w2];omega)) rfl ?_
    rw[hv]
    show ACall ..
    refine za (zqU g c v hl) rfl ?_
    cases hy:zd9 g v with
    |true=>
     have e1:zdm g c v=(zJ g c v,{zE g c v with met:=true}):=by unfold zdm;rw[if_pos hy]
     rw[e1]
     refine zYE (by decide) ?_
     show ADCall ..
     refine .mk _ _ (zcn g c v hl hs hk) rfl ?_
     have sm:=zaM g c v
     have ef:IntKind.i64.wrap ((zE g c v).field_+1)=c.field_+1:=by rw[sm.field_,w3]
     show ABr (decide (IntKind.i64.wrap ((zE g c v).field_+1)=(headH g c.at_).n)) _ _
     rw[ef]
     by_cases hl2:c.field_+1=(headH g c.at_).n
     ·rw[if_pos hl2,decide_eq_true hl2]
      refine zYE (by decide) ?_
      show ACall ..
      refine .hand [(16,16)] [(16,.vars (wkV (zJ g c v) {zE g c v with met:=true,field_:=c.field_+1}))] [.c (.ptr 16 0 0),.int 0] _ (.cons _ _ _ _ (.c _ _ (.ptr _ _ _ _ rfl)) (.cons _ _ _ _ .same .nil)) (.old 16 16 _ _ _ rfl rfl (.vars _ _ (zb rfl)) .nil) rfl (zdn (zJ g c v) {zE g c v with met:=true,field_:=c.field_+1} 0) ?_
      rintro H r ⟨rfl,rfl⟩ _ _
      refine⟨rfl,.inl rfl,?_⟩
      show ARet ..
      exact⟨[(16,16)],[(16,.vars (wkV (zJ g c v) {zE g c v with met:=true,at_:=0,field_:=0}))],[],.nil,.old 16 16 _ _ _ rfl rfl (.vars _ _ (by repeat' first|exact .nil|refine .cons _ _ _ _ ?_ ?_|exact .d _|exact .int_eq rfl)) .nil,rfl,rfl,rfl⟩
     ·rw[if_neg hl2,decide_eq_false hl2]
      refine zNO (by decide) ?_
      show ARet ..
      exact⟨[(16,16)],[(16,.vars (wkV (zJ g c v) {zE g c v with met:=true,field_:=c.field_+1}))],[],.nil,.old 16 16 _ _ _ rfl rfl (.vars _ _ (by repeat' first|exact .nil|refine .cons _ _ _ _ ?_ ?_|exact .d _|exact .int_eq rfl)) .nil,rfl,rfl,rfl⟩
    |false=>
     have e1:zdm g c v=(g,c):=by unfold zdm;rw[if_neg (by rw[hy];decide)]
     rw[e1]
     refine zNO (by decide) ?_
     show ABr (decide (IntKind.i64.wrap (c.field_+1)=(headH g c.at_).n)) _ _
     rw[w3]
     by_cases hl2:c.field_+1=(headH g c.at_).n
     ·rw[if_pos hl2,decide_eq_true hl2]
      refine zYE (by decide) ?_
      show ACall ..
      refine .hand [(16,16)] [(16,.vars (wkV g {c with field_:=c.field_+1}))] [.c (.ptr 16 0 0),.int 0] _ (.cons _ _ _ _ (.c _ _ (.ptr _ _ _ _ rfl)) (.cons _ _ _ _ .same .nil)) (.old 16 16 _ _ _ rfl rfl (.vars _ _ (zb rfl)) .nil) rfl (zdn g {c with field_:=c.field_+1} 0) ?_
      rintro H r ⟨rfl,rfl⟩ _ _
      refine⟨rfl,.inl rfl,?_⟩
      show ARet ..
      exact⟨[(16,16)],[(16,.vars (wkV g {c with at_:=0,field_:=0}))],[],.nil,.old 16 16 _ _ _ rfl rfl (.vars _ _ (by repeat' first|exact .nil|refine .cons _ _ _ _ ?_ ?_|exact .d _|exact .int_eq rfl)) .nil,rfl,rfl,rfl⟩
     ·rw[if_neg hl2,decide_eq_false hl2]
      refine zNO (by decide) ?_
      show ARet ..
      exact⟨[(16,16)],[(16,.vars (wkV g {c with field_:=c.field_+1}))],[],.nil,.old 16 16 _ _ _ rfl rfl (.vars _ _ (by repeat' first|exact .nil|refine .cons _ _ _ _ ?_ ?_|exact .d _|exact .int_eq rfl)) .nil,rfl,rfl,rfl⟩
 ·show ABr (!decide (headE g c.at_=0)) _ _
  rw[decide_eq_false hE,if_pos (.inl hE)]
  refine zYE (by decide) ?_
  conv=>whnf
  refine⟨fun _=>?_,fun h=>absurd h (by decide)⟩
  refine zYE (by decide) ?_
  show ACall ..
  refine .hand [(16,16)] [(16,.vars (wkV g c))] [.c (.ptr 16 0 0),.int 0] _ (.cons _ _ _ _ (.c _ _ (.ptr _ _ _ _ rfl)) (.cons _ _ _ _ .same .nil)) (.old 16 16 _ _ _ rfl rfl (.vars _ _ (zb rfl)) .nil) rfl (zdn g c 0) ?_
  rintro H r ⟨rfl,rfl⟩ _ _
  refine⟨rfl,.inl rfl,?_⟩
  show ARet ..
  exact⟨[(16,16)],[(16,.vars (wkV g {c with at_:=0,field_:=0}))],[],.nil,.old 16 16 _ _ _ rfl rfl (.vars _ _ (by repeat' first|exact .nil|refine .cons _ _ _ _ ?_ ?_|exact .d _|exact .int_eq rfl)) .nil,rfl,rfl,rfl⟩
theorem zyj {g:Hp} (hm:zw g []=true) {n:Int} (h0:0<=n) (hc:n<(g.cards.length:Int)):IntKind.i64.wrap (16+IntKind.i64.wrap (8*n))=16+8*n/\zaN g (16+8*n)=cset g n true:=by
 obtain⟨_,_,h3,h4,_,h64⟩:=zm (zF hm)
 have e1:IntKind.i64.wrap (8*n)=8*n:=zu (by omega) (by omega)
 have e2:IntKind.i64.wrap (16+8*n)=16+8*n:=zu (by omega) (by omega)
 have h0':=ze4 (a:=16+8*n) hm ⟨by omega,by omega⟩
 refine⟨by rw[e1,e2],?_⟩
 rw[zkL h0',zed h0']
 congr 1
 omega
theorem zt0 (g:Hp) (c:Col) (hl:g.light) (hm:zw g []=true) (h0:0<=c.card) (hc:c.card<(g.cards.length:Int)):Spec X 210 [(16,.vars (wkV g c))] [.c (.ptr 16 0 0)] (fun H r=>H=[(16,.vars (wkV (zsO g c).1 (zsO g c).2))]/\r = .tup []):=by
 refine zGO X_ok Tryz.f210 fun hb hH=>⟨rfl,?_⟩
 have wc:=zvj hm h0 hc
 obtain⟨wa,wd⟩:=zyj hm h0 hc
 unfold zsO
 cases hd:c.met with
 |true=>
  rw[if_pos rfl,←wd]
  show ABr ..
  refine⟨fun _=>?_,fun h=>absurd h (by simp[hd])⟩
  show ADCall ..
  refine .mk _ _ (zr1 g c) rfl ?_
  rw[wa]
  show ADCall ..
  refine .mk _ _ (zh2 g (16+8*c.card) hl (by obtain⟨_,_,h3,h4,_,h64⟩:=zm (zF hm);omega)) rfl ?_
  show ARet ..
  exact⟨[(16,16)],[(16,.vars (wkV (zaN g (16+8*c.card)) {c with card:=c.card+1,seek:=0,met:=false}))],[],.nil,.old 16 16 _ _ _ rfl rfl (.vars _ _ (by repeat' first|exact .nil|refine .cons _ _ _ _ ?_ ?_|exact .d _|exact .int_eq wc)) .nil,rfl,rfl,rfl⟩
 |false=>
  rw[if_neg (by decide)]
  show ABr ..
  refine⟨fun h=>absurd h (by simp[hd]),fun _=>?_⟩
  show ARet ..
  exact⟨[(16,16)],[(16,.vars (wkV g {c with card:=c.card+1,seek:=0,met:=false}))],[],.nil,.old 16 16 _ _ _ rfl rfl (.vars _ _ (by repeat' first|exact .nil|refine .cons _ _ _ _ ?_ ?_|exact .d _|exact .int_eq wc)) .nil,rfl,rfl,rfl⟩
set_option maxRecDepth 60000 in
set_option maxHeartbeats 2000000 in
theorem zrx (g:Hp) (c:Col) (hl:g.light) (hs:g.small) (hk:c.work.length<zi):Spec X 162 [] [g.tv,c.tv] (Ret [] (.tup [(zj6 g c).1.tv,(zj6 g c).2.tv])):=by
 refine zGO X_ok Tryz.f162 fun hb hH=>⟨rfl,?_⟩
 show ACall ..
 refine .mk _ (ztA g c hs (Nat.le_of_lt hk)) fun H r ⟨eH,er⟩ _ _=>⟨.inl rfl,?_⟩
 subst eH er
 show ACall ..
 refine za (zbM g hl) rfl ?_
 show ABr (bif (bif !zw g [] then true else !decide (c.phase=4)) then true else decide (c.card<0)) _ _
 unfold zj6
 by_cases hx:zw g []=true/\c.phase=4/\0<=c.card
 ·obtain⟨hm,hp,h0⟩:=hx
  have hc0:(bif (bif !zw g [] then true else !decide (c.phase=4)) then true else decide (c.card<0))=false:=by rw[hm,decide_eq_true hp,decide_eq_false (by omega)];rfl
  refine⟨fun h=>absurd (hc0.symm.trans h) (by decide),fun _=>?_⟩
  rw[if_pos ⟨hm,hp,h0⟩]
  show ABr (decide (c.card>=(g.cards.length:Int))) _ _
  by_cases hc:(g.cards.length:Int)<=c.card
  ·rw[if_pos hc,decide_eq_true (show c.card>=(g.cards.length:Int) from hc)]
   refine zYE (by decide) ?_
   show ACall ..
   refine .hand [(224,16)] [(16,.vars (wkV g {c with phase:=5,seek:=0,card:=0,met:=false}))] [.c (.ptr 16 0 0),.int 0] _ (.cons _ _ _ _ (.c _ _ (.ptr _ _ _ _ rfl)) (.cons _ _ _ _ .same .nil)) (.old 16 224 _ _ _ rfl rfl (.vars _ _ (zb rfl)) .nil) rfl (zdn g {c with phase:=5,seek:=0,card:=0,met:=false} 0) ?_
   rintro H r ⟨rfl,rfl⟩ _ _
   refine⟨rfl,.inl rfl,?_⟩
   show ARet ..
   exact zg rfl ⟨rfl,rfl⟩
  ·rw[if_neg hc,decide_eq_false (show ¬c.card>=(g.cards.length:Int) from hc)]
   refine zNO (by decide) ?_
   have hc:c.card<(g.cards.length:Int):=by omega
   by_cases hsk:c.seek=0
   ·show ABr (decide (c.seek=0)) _ _
    rw[if_pos hsk,decide_eq_true hsk]
    refine zYE (by decide) ?_
    show ACall ..
    refine .hand [(224,16)] [(16,.vars (wkV g c))] [.c (.ptr 16 0 0)] _ (.cons _ _ _ _ (.c _ _ (.ptr _ _ _ _ rfl)) .nil) (.old 16 224 _ _ _ rfl rfl (.vars _ _ (zb rfl)) .nil) rfl (zpI g c hl hm h0 hc) ?_
    rintro H r ⟨rfl,rfl⟩ _ _
    refine⟨rfl,.inl rfl,?_⟩
    show ARet ..
    exact zg rfl ⟨rfl,rfl⟩
   ·show ABr (decide (c.seek=0)) _ _
    rw[if_neg hsk,decide_eq_false hsk]
    refine zNO (by decide) ?_
    by_cases ha:c.at_=0
    ·show ABr (!decide (c.at_=0)) _ _
     rw[if_neg (fun k=>k ha),decide_eq_true ha]
     refine zNO (by decide) ?_
     show ACall ..
     refine za (zsb g c.card c.seek hl) rfl ?_
     cases hn:zeG g c.card c.seek with
     |some a=>
      refine zYE (by simp) ?_
      show ACall ..
      refine .hand [(224,16)] [(16,.vars (wkV g c))] [.c (.ptr 16 0 0),.int a] _ (.cons _ _ _ _ (.c _ _ (.ptr _ _ _ _ rfl)) (.cons _ _ _ _ .same .nil)) (.old 16 224 _ _ _ rfl rfl (.vars _ _ (zb rfl)) .nil) rfl (zdn g c a) ?_
      rintro H r ⟨rfl,rfl⟩ _ _
      refine⟨rfl,.inl rfl,?_⟩
      show ARet ..
      exact zg rfl ⟨rfl,rfl⟩
     |none=>
      refine zNO (by simp) ?_
      show ACall ..
      refine .hand [(224,16)] [(16,.vars (wkV g c))] [.c (.ptr 16 0 0)] _ (.cons _ _ _ _ (.c _ _ (.ptr _ _ _ _ rfl)) .nil) (.old 16 224 _ _ _ rfl rfl (.vars _ _ (zb rfl)) .nil) rfl (zt0 g c hl hm h0 hc) ?_
      rintro H r ⟨rfl,rfl⟩ _ _
      refine⟨rfl,.inl rfl,?_⟩
      show ARet ..
      exact zg rfl ⟨rfl,rfl⟩
    ·show ABr (!decide (c.at_=0)) _ _
     rw[if_pos ha,decide_eq_false ha]
     refine zYE (by decide) ?_
     show ACall ..
     refine .hand [(224,16)] [(16,.vars (wkV g c))] [.c (.ptr 16 0 0)] _ (.cons _ _ _ _ (.c _ _ (.ptr _ _ _ _ rfl)) .nil) (.old 16 224 _ _ _ rfl rfl (.vars _ _ (zb rfl)) .nil) rfl (zqD g c hl hs hk) ?_
     rintro H r ⟨rfl,rfl⟩ _ _
     refine⟨rfl,.inl rfl,?_⟩
     show ARet ..
     exact zg rfl ⟨rfl,rfl⟩
 ·rw[if_neg hx]
  have hc0:(bif (bif !zw g [] then true else !decide (c.phase=4)) then true else decide (c.card<0))=true:=by
   cases hm:zw g [] with
   |false=>rfl
   |true=>
    by_cases hp:c.phase=4
    ·have:c.card<0:=by
      apply Classical.byContradiction
      intro h;exact hx ⟨hm,hp,by omega⟩
     rw[decide_eq_true hp,decide_eq_true this];rfl
    ·rw[decide_eq_false hp];rfl
  refine⟨fun _=>?_,fun h=>absurd (hc0.symm.trans h) (by decide)⟩
  show ARet ..
  exact zg rfl ⟨rfl,rfl⟩
theorem zuo (g:Hp) (c:Col) (hs:g.small) (hw:c.work.length<=zi):Spec X 211 [] [g.tv,c.tv] (Ret [] (.tup [g.tv,c.tv])):=by
 refine zGO X_ok Tryz.f211 fun hb hH=>⟨rfl,?_⟩
 obtain⟨h1,h2,h3,h4,h5,h6⟩:=hs
 show ADCall ..
 refine .mk _ _ (zd g.w h1) rfl ?_
 show ADCall ..
 refine .mk _ _ (zab g.pages h2) rfl ?_
 show ADCall ..
 refine .mk _ _ (zae g.cards h3) rfl ?_
 show ∃n,_
 refine⟨4,?_⟩
 show ALoop ..
 refine .next ?_
 refine zYE (by decide) ?_
 show AOb ..
 refine⟨by decide,?_⟩
 show ACall ..
 refine za (zd g.free.l0 h4) rfl ?_
 show AOb ..
 refine⟨by decide,?_⟩
 show ALoop ..
 refine .next ?_
 refine zYE (by decide) ?_
 show AOb ..
 refine⟨by decide,?_⟩
 show ACall ..
 refine za (zd g.free.l1 h5) rfl ?_
 show AOb ..
 refine⟨by decide,?_⟩
 show ALoop ..
 refine .next ?_
 refine zYE (by decide) ?_
 show AOb ..
 refine⟨by decide,?_⟩
 show ACall ..
 refine za (zd g.free.l2 h6) rfl ?_
 show AOb ..
 refine⟨by decide,?_⟩
 show ALoop ..
 refine .next ?_
 refine zNO (by decide) ?_
 show ACall ..
 refine za (zd c.work hw) rfl ?_
 show ARet ..
 exact zg rfl ⟨rfl,rfl⟩
theorem zlW (g:Hp) (c:Col) (a:Int) (hl:g.light) (hs:g.small):Spec X 214 [] [g.tv,c.tv,.int a] (Ret [] (.int (zaX g c a))):=by
 refine zGO X_ok Tryz.f214 fun hb hH=>⟨rfl,?_⟩
 unfold zaX
 show ACall ..
 refine za (ziv g c a hl hs) rfl ?_
 show ABr (!decide (atK g c a=2)) _ _
 refine⟨fun h=>?_,fun h=>?_⟩
 ·have h:¬atK g c a=2:=by simpa using h
  rw[if_neg h]
  show ARet ..
  exact zg rfl ⟨rfl,rfl⟩
 ·have h:atK g c a=2:=by simpa using h
  rw[if_pos h]
  show ACall ..
  refine za (zaI g a hl) rfl ?_
  show ARet ..
  exact zg rfl ⟨rfl,rfl⟩
theorem zrJ {c d:Col} (h1:d.epoch=c.epoch) (h2:d.major=c.major) (g:Hp) (a:Int):zan g d a=zan g c a:=by unfold zan;rw[zbW h1 h2]
theorem ztU {c d:Col} (h1:d.epoch=c.epoch) (h2:d.major=c.major) (g:Hp) (a:Int):zaX g d a=zaX g c a:=by unfold zaX;rw[zbW h1 h2]
set_option maxHeartbeats 2000000 in
theorem zoy (g:Hp) (c:Col) (hl:g.light) (hs:g.small) (hk:c.work.length<zi):Spec X 212 [] [g.tv,c.tv] (Ret [] (.tup [(zk5 g c).1.tv,(zk5 g c).2.tv])):=by
 refine zGO X_ok Tryz.f212 fun hb hH=>⟨rfl,?_⟩
 show ADCall ..
 refine .mk _ _ (zlW g c c.at_ hl hs) rfl ?_
 unfold zk5
 show ABr (bif decide (c.field_<0) then true else decide (c.field_>=zaX g c c.at_)) _ _
 by_cases hf:c.field_<0\/zaX g c c.at_<=c.field_
 ·rw[if_pos hf]
  have hc:(bif decide (c.field_<0) then true else decide (c.field_>=zaX g c c.at_))=true:=by
   rcases hf with h|h<;>simp[h]
  rw[hc]
  refine zYE (by decide) ?_
  show ARet ..
  exact zg rfl ⟨rfl,rfl⟩
 ·rw[if_neg hf]
  have hc:(bif decide (c.field_<0) then true else decide (c.field_>=zaX g c c.at_))=false:=by
   simp;omega
  rw[hc]
  refine zNO (by decide) ?_
  have h0:0<=c.field_:=by omega
  have hlt:c.field_<zaX g c c.at_:=by omega
  have hg2:atK g c c.at_=2:=zuu.1 (by omega)
  have hE:=(zlV hg2).1
  have hn:zaX g c c.at_=(headH g c.at_).n:=if_pos hg2
  obtain⟨hm,_,_⟩:=zG hE
  obtain⟨hmw,_,hlen,_,_,h64⟩:=zm (zF hm)
  obtain⟨⟨a1,a2⟩,_⟩:=ze7 (f:=c.field_+1) hE (by omega) (by omega)
  have ha16:=(zlV hg2).2.2
  have w1:IntKind.i64.wrap (c.at_+1)=c.at_+1:=zu (by omega) (by omega)
  have w2:IntKind.i64.wrap (c.at_+1+c.field_)=c.at_+1+c.field_:=zu (by omega) (by omega)
  have w3:IntKind.i64.wrap (c.field_+1)=c.field_+1:=zu (by omega) (by omega)
  have hv:at0 g.w (IntKind.i64.wrap (IntKind.i64.wrap (c.at_+1)+c.field_)-16).toNat=wordOf g (c.at_+1+c.field_):=by
   rw[w1,w2]
   unfold wordOf zf
   rw[if_pos ⟨hmw,by omega,by omega⟩]
  generalize wordOf g (c.at_+1+c.field_)=v at hv
  show ACall ..
  refine za (zgP g.w (IntKind.i64.wrap (IntKind.i64.wrap (c.at_+1)+c.field_)) hmw (by rw[w1,w2];omega)) rfl ?_
  rw[hv]
  show ACall ..
  refine za (zcn g c v hl hs hk) rfl ?_
  have sm:=zaM g c v
  have ef:IntKind.i64.wrap ((zE g c v).field_+1)=c.field_+1:=by rw[sm.field_,w3]
  show ABr (decide (IntKind.i64.wrap ((zE g c v).field_+1)=zaX g c c.at_)) _ _
  rw[ef]
  by_cases hl2:c.field_+1=zaX g c c.at_
  ·rw[if_pos hl2,decide_eq_true hl2]
   refine zYE (by decide) ?_
   have hMs:=zcw g c v
   show ACall ..
   refine za (ziv (zJ g c v) {zE g c v with field_:=c.field_+1} c.at_ (hMs.light hl) (hMs.small hs)) rfl ?_
   rw[zrJ (c:=c) (d:={zE g c v with field_:=c.field_+1}) sm.epoch sm.major]
   show ARet ..
   exact zg rfl ⟨rfl,rfl⟩
  ·rw[if_neg hl2,decide_eq_false hl2]
   refine zNO (by decide) ?_
   show ARet ..
   exact zg rfl ⟨rfl,rfl⟩
theorem zyz {n:Nat} (h:n<zi):IntKind.i64.wrap ((n:Int)-1)=(n:Int)-1:=zu (by omega) (by unfold zi at h;omega)
set_option maxHeartbeats 2000000 in
theorem zrq (g:Hp) (c:Col) (hl:g.light) (hs:g.small) (hk:c.work.length<zi):Spec X 163 [] [g.tv,c.tv] (Ret [] (.tup [(zgf g c).1.tv,(zgf g c).2.tv])):=by
 refine zGO X_ok Tryz.f163 fun hb hH=>⟨rfl,?_⟩
 have hlw:=zyz hk
 show ACall ..
 refine za (zbM g hl) rfl ?_
 show ACall ..
 refine za (zuo g c hs (Nat.le_of_lt hk)) rfl ?_
 unfold zgf
 show ABr (!zw g []) _ _
 refine⟨fun h=>?_,fun h=>?_⟩
 ·have hm:zw g []=false:=by simpa using h
  rw[if_neg (fun k=>by rw[hm]at k;exact Bool.false_ne_true k.1)]
  show ABr ..
  refine⟨fun _=>?_,fun h=>absurd h (by simp[hm])⟩
  show ARet ..
  exact zg rfl ⟨rfl,rfl⟩
 ·have hm:zw g []=true:=by simpa using h
  show ABr (!decide (c.phase=5)) _ _
  refine⟨fun h=>?_,fun h=>?_⟩
  ·have hp:c.phase≠5:=by simpa using h
   rw[if_neg (fun k=>hp k.2)]
   show ARet ..
   exact zg rfl ⟨rfl,rfl⟩
  ·have hp:c.phase=5:=by simpa using h
   rw[if_pos ⟨hm,hp⟩]
   show ABr (!decide (c.at_=0)) _ _
   refine⟨fun h=>?_,fun h=>?_⟩
   ·have ha:c.at_≠0:=by simpa using h
    rw[if_pos ha]
    show ACall ..
    refine za (zoy g c hl hs hk) rfl ?_
    show ARet ..
    exact zg rfl ⟨rfl,rfl⟩
   ·have ha:c.at_=0:=by simpa using h
    rw[if_neg (fun k=>k ha)]
    show ABr (decide (IntKind.i64.wrap ((c.work.length:Int)-1)>=0)) _ _
    by_cases hw:0<c.work.length
    ·rw[if_pos hw,decide_eq_true (show IntKind.i64.wrap ((c.work.length:Int)-1)>=0 by rw[hlw];omega)]
     refine zYE (by decide) ?_
     have e3:c.work.length-1=(IntKind.i64.wrap ((c.work.length:Int)-1)).toNat:=by rw[hlw];omega
     show AOb ((0:Int)<=IntKind.i64.wrap ((c.work.length:Int)-1)/\IntKind.i64.wrap ((c.work.length:Int)-1)<(c.work.length:Int)) _
     refine⟨by rw[hlw];omega,?_⟩
     show AOb ((0:Int)<=IntKind.i64.wrap ((c.work.length:Int)-1)/\IntKind.i64.wrap ((c.work.length:Int)-1)<=(c.work.length:Int)) _
     refine⟨by rw[hlw];omega,?_⟩
     rw[e3]
     show ARet ..
     exact zg rfl ⟨rfl,rfl⟩
    ·rw[if_neg hw,decide_eq_false (show ¬IntKind.i64.wrap ((c.work.length:Int)-1)>=0 by rw[hlw];omega)]
     refine zNO (by decide) ?_
     show ABr (!decide (c.seek=0)) _ _
     refine⟨fun h=>?_,fun h=>?_⟩
     ·have hsk:c.seek≠0:=by simpa using h
      rw[if_pos hsk]
      show ACall ..
      refine za (zlG g.pages c.seek) rfl ?_
      show ACall ..
      refine za (zlW g {c with seek:=zO g.pages c.seek} (zO g.pages c.seek) hl hs) rfl ?_
      rw[ztU (c:=c) (d:={c with seek:=zO g.pages c.seek}) rfl rfl]
      show ABr (decide (zaX g c (zO g.pages c.seek)=0)) _ _
      refine⟨fun h=>?_,fun h=>?_⟩
      ·rw[if_pos (of_decide_eq_true h)]
       show ARet ..
       exact zg rfl ⟨rfl,rfl⟩
      ·rw[if_neg (of_decide_eq_false h)]
       show ARet ..
       exact zg rfl ⟨rfl,rfl⟩
     ·have hsk:c.seek=0:=by simpa using h
      rw[if_neg (fun k=>k hsk)]
      show ABr (c.over) _ _
      refine⟨fun h=>?_,fun h=>?_⟩
      ·rw[if_pos h]
       show ARet ..
       exact zg rfl ⟨rfl,rfl⟩
      ·rw[if_neg (fun k=>by rw[h]at k;cases k)]
       show ARet ..
       exact zg rfl ⟨rfl,rfl⟩
theorem zkM (p:Int):Spec X 166 [] [.int p] (Ret [] (.int (zbQ p))):=by
 refine zGO X_ok Tryz.f166 fun hb hH=>⟨rfl,?_⟩
 unfold zbQ
 show ABr (decide (p=0)) _ _
 refine⟨fun h=>?_,fun h=>?_⟩
 ·rw[if_pos (of_decide_eq_true h)]
  show ARet ..
  exact zg rfl ⟨rfl,rfl⟩
 ·rw[if_neg (of_decide_eq_false h)]
  show ABr (decide (p=1)) _ _
  refine⟨fun h=>?_,fun h=>?_⟩
  ·rw[if_pos (of_decide_eq_true h)]
   show ARet ..
   exact zg rfl ⟨rfl,rfl⟩
  ·rw[if_neg (of_decide_eq_false h)]
   show ABr (decide (p=2)) _ _
   refine⟨fun h=>?_,fun h=>?_⟩
   ·rw[if_pos (of_decide_eq_true h)]
    show ARet ..
    exact zg rfl ⟨rfl,rfl⟩
   ·rw[if_neg (of_decide_eq_false h)]
    show ARet ..
    exact zg rfl ⟨rfl,rfl⟩
theorem zhf (c:Col) (t:Thread):Spec X 143 [] [c.tv,t.tv] (Ret [] (.bo (zad c t))):=by
 refine zGO X_ok Tryz.f143 fun hb hH=>⟨rfl,?_⟩
 show ACall ..
 refine za (zkM c.phase) rfl ?_
 unfold zbQ zad
 by_cases h0:c.phase=0
 ·rw[if_pos h0,if_pos h0]
  refine zYE (by decide) ?_
  show ARet ..
  exact zg rfl ⟨rfl,rfl⟩
 ·rw[if_neg h0,if_neg h0]
  by_cases h1:c.phase=1
  ·rw[if_pos h1,if_pos h1]
   refine zNO (by decide) ?_
   refine zYE (by decide) ?_
   show ARet ..
   exact zg rfl ⟨rfl,rfl⟩
  ·rw[if_neg h1,if_neg h1]
   by_cases h2:c.phase=2
   ·rw[if_pos h2,if_pos h2]
    refine zNO (by decide) ?_
    refine zNO (by decide) ?_
    refine zYE (by decide) ?_
    show ARet ..
    refine zo (x:=bif decide (t.epoch=c.epoch) then decide (t.stage>=2) else false) ?_ ⟨rfl,rfl⟩
    rw[zdk]
    cases decide (t.epoch=c.epoch)<;>rfl
   ·rw[if_neg h2,if_neg h2]
    refine zNO (by decide) ?_
    refine zNO (by decide) ?_
    refine zNO (by decide) ?_
    show ARet ..
    refine zo (x:=bif decide (t.epoch=c.epoch) then decide (t.stage=3) else false) ?_ ⟨rfl,rfl⟩
    rw[zdk]
    cases decide (t.epoch=c.epoch)<;>rfl
theorem zkC (c:Col) (t:Thread):Spec X 114 [] [c.tv,t.tv] (Ret [] (.bo (zaz c t))):=by
 refine zGO X_ok Tryz.f114 fun hb hH=>⟨rfl,?_⟩
 unfold zaz
 show AIf (t.live=true/\True) _ _
 by_cases hl:t.live=true
 ·refine⟨fun _=>?_,fun h=>absurd ⟨hl,trivial⟩ h⟩
  show ACall ..
  refine za (zkR t) rfl ?_
  conv=>whnf
  trace_state
  skip
  show AIf ((bif decide t.mayT then t.pc==0 else false)=true/\True) _ _
  by_cases hb:(bif decide t.mayT then t.pc==0 else false)=true
  ·refine⟨fun _=>?_,fun h=>absurd ⟨hb,trivial⟩ h⟩
   show ACall ..
   refine za (zhf c t) rfl ?_
   show ARet ..
   refine zo (x:=!zad c t) ?_ ⟨rfl,rfl⟩
   cases h1:decide t.mayT with
   |false=>rw[h1]at hb;cases hb
   |true=>
    rw[h1]at hb
    rw[decide_eq_true (show t.pc=0 by simpa using hb),hl]
    rfl
  ·refine⟨fun h=>absurd h.1 hb,fun _=>?_⟩
   show AOb ..
   refine⟨by simpa using hb,?_⟩
   show ARet ..
   refine zo (x:=false) ?_ ⟨rfl,rfl⟩
   cases h1:decide t.mayT with
   |false=>rw[Bool.false_and,Bool.and_false]
   |true=>
    rw[h1]at hb
    rw[decide_eq_false (show ¬t.pc=0 by simpa using hb),Bool.false_and,Bool.and_false,Bool.and_false]
 ·refine⟨fun h=>absurd h.1 hl,fun _=>?_⟩
  show AOb ..
  refine⟨by simpa using hl,?_⟩
  conv=>whnf
  trace_state
  skip
  refine⟨fun h=>absurd h.1 Bool.false_ne_true,fun _=>?_⟩
  show AOb ..
  refine⟨by rfl,?_⟩
  show ARet ..
  refine zo (x:=false) ?_ ⟨rfl,rfl⟩
  rw[show t.live=false by simpa using hl,Bool.false_and]
set_option maxHeartbeats 4000000 in
set_option maxRecDepth 60000 in
theorem zj7 (g:Hp) (c:Col) (t:Thread) (hs:g.small) (hw:c.work.length<=zi) (ht:t.ok):Spec X 144 [] [g.tv,c.tv,t.tv] (Ret [] (.tup [g.tv,c.tv,t.tv])):=by
 refine zGO X_ok Tryz.f144 fun hb hH=>⟨rfl,?_⟩
 obtain⟨h1,h2,h3,h4,h5,h6⟩:=hs
 obtain⟨t1,t2,t3,t4⟩:=ht
 show ADCall ..
 refine .mk _ _ (zd g.w h1) rfl ?_
 show ADCall ..
 refine .mk _ _ (zab g.pages h2) rfl ?_
 show ADCall ..
 refine .mk _ _ (zae g.cards h3) rfl ?_
 show ADCall ..
 refine .mk _ _ (zd c.work hw) rfl ?_
 show ADCall ..
 refine .mk _ _ (zcb t.ops t1) rfl ?_
 show ∃n,_
 refine⟨4,?_⟩
 show ALoop ..
 refine .next ?_
 refine zYE (by decide) ?_
 show AOb ..
 refine⟨by decide,?_⟩
 show ADCall ..
 refine .mk _ _ (zd g.free.l0 h4) rfl ?_
 show AOb ..
 refine⟨by decide,?_⟩
 show ADCall ..
 refine .mk _ _ (zd t.cache.l0 t2) rfl ?_
 show AOb ..
 refine⟨by decide,?_⟩
 show AOb ..
 refine⟨by decide,?_⟩
 show ALoop ..
 refine .next ?_
 refine zYE (by decide) ?_
 show AOb ..
 refine⟨by decide,?_⟩
 show ADCall ..
 refine .mk _ _ (zd g.free.l1 h5) rfl ?_
 show AOb ..
 refine⟨by decide,?_⟩
 show ADCall ..
 refine .mk _ _ (zd t.cache.l1 t3) rfl ?_
 show AOb ..
 refine⟨by decide,?_⟩
 show AOb ..
 refine⟨by decide,?_⟩
 show ALoop ..
 refine .next ?_
 refine zYE (by decide) ?_
 show AOb ..
 refine⟨by decide,?_⟩
 show ADCall ..
 refine .mk _ _ (zd g.free.l2 h6) rfl ?_
 show AOb ..
 refine⟨by decide,?_⟩
 show ADCall ..
 refine .mk _ _ (zd t.cache.l2 t4) rfl ?_
 show AOb ..
 refine⟨by decide,?_⟩
 show AOb ..
 refine⟨by decide,?_⟩
 show ALoop ..
 refine .next ?_
 refine zNO (by decide) ?_
 show ARet ..
 exact zg rfl ⟨rfl,rfl⟩
set_option maxHeartbeats 4000000 in
set_option maxRecDepth 60000 in
theorem zp1 (g:Hp) (c:Col) (t:Thread) (hl:g.light) (hs:g.small) (hw:c.work.length<zi) (ht:t.ok):Spec X 115 [] [g.tv,c.tv,t.tv] (Ret [] (.tup [(ansG g c t).tv,(ansC g c t).tv,(ansT c t).tv])):=by
 refine zGO X_ok Tryz.f115 fun hb hH=>⟨rfl,?_⟩
 show ACall ..
 refine za (zkC c t) rfl ?_
 show ACall ..
 refine za (zj7 g c t hs (Nat.le_of_lt hw) ht) rfl ?_
 show ABr (!zaz c t) _ _
 refine⟨fun h=>?_,fun h=>?_⟩
 ·have ha:zaz c t=false:=by simpa using h
  rw[zw6 ha,zw0 ha,znr ha]
  show ARet ..
  exact zg rfl ⟨rfl,rfl⟩
 ·have ha:zaz c t=true:=by simpa using h
  show ABr (!decide (t.epoch=c.epoch)) _ _
  refine⟨fun h=>?_,fun h=>?_⟩
  ·have he:t.epoch≠c.epoch:=by simpa using h
   rcases zc1 ha with⟨_,hk,e⟩|⟨h1,_⟩|⟨h1,_⟩
   ·rw[e,show ansG g c t=g by unfold ansG;rw[if_neg (by omega)],show ansC g c t=c by unfold ansC;rw[if_neg (by omega)]]
    show ARet ..
    exact zg rfl ⟨rfl,rfl⟩
   ·exact absurd h1 he
   ·exact absurd h1 he
  ·have he:t.epoch=c.epoch:=by simpa using h
   show ABr (decide (c.phase=2)) _ _
   refine⟨fun h=>?_,fun h=>?_⟩
   ·have hp:c.phase=2:=of_decide_eq_true h
    rcases zc1 ha with⟨h1,_⟩|⟨_,_,_,hk,e⟩|⟨_,_,_,h1,_⟩
    ·exact absurd he h1
    ·rw[e,show ansG g c t=g by unfold ansG;rw[if_neg (by omega)],show ansC g c t=c by unfold ansC;rw[if_neg (by omega)]]
     show ARet ..
     exact zg rfl ⟨rfl,rfl⟩
    ·exact absurd hp h1
   ·have hp:c.phase≠2:=of_decide_eq_false h
    obtain⟨_,⟨_,_,m3,m4,_⟩,_⟩:=zik ha
    rcases zc1 ha with⟨h1,_⟩|⟨_,h1,_⟩|⟨_,_,_,_,_,hk,e⟩
    ·exact absurd he h1
    ·exact absurd h1 hp
    ·rw[e,show ansG g c t=zJ g c (t.reg t.root) by unfold ansG;rw[if_pos hk],show ansC g c t=zE g c (t.reg t.root) by unfold ansC;rw[if_pos hk]]
     clear ha he hk e
     obtain⟨live,r0,r1,r2,r3,cache,epoch,stage,root,ops,pc,x,y⟩:=t
     have m3:0<=root:=m3
     have m4:root<=3:=m4
     rcases (show root=0\/root=1\/root=2\/root=3 by omega) with rfl|rfl|rfl|rfl
     ·show AOb ..
      refine⟨by exact⟨(by decide:(0:Int)<=0),(by decide:(0:Int)<4)⟩,?_⟩
      show ADCall ..
      refine .mk _ _ (zcn g c r0 hl hs hw) rfl ?_
      show ABr (IntKind.i64.wrap ((0:Int)+1)==4) _ _
      refine zNO (by decide) ?_
      show ARet ..
      exact zg rfl ⟨rfl,rfl⟩
     ·show AOb ..
      refine⟨by exact⟨(by decide:(0:Int)<=1),(by decide:(1:Int)<4)⟩,?_⟩
      show ADCall ..
      refine .mk _ _ (zcn g c r1 hl hs hw) rfl ?_
      show ABr (IntKind.i64.wrap ((1:Int)+1)==4) _ _
      refine zNO (by decide) ?_
      show ARet ..
      exact zg rfl ⟨rfl,rfl⟩
     ·show AOb ..
      refine⟨by exact⟨(by decide:(0:Int)<=2),(by decide:(2:Int)<4)⟩,?_⟩
      show ADCall ..
      refine .mk _ _ (zcn g c r2 hl hs hw) rfl ?_
      show ABr (IntKind.i64.wrap ((2:Int)+1)==4) _ _
      refine zNO (by decide) ?_
      show ARet ..
      exact zg rfl ⟨rfl,rfl⟩
     ·show AOb ..
      refine⟨by exact⟨(by decide:(0:Int)<=3),(by decide:(3:Int)<4)⟩,?_⟩
      show ADCall ..
      refine .mk _ _ (zcn g c r3 hl hs hw) rfl ?_
      show ABr (IntKind.i64.wrap ((3:Int)+1)==4) _ _
      refine zYE (by decide) ?_
      show ARet ..
      exact zg rfl ⟨rfl,rfl⟩
theorem zu4 {g:Nat} {x:Thread} {cs:List DV} {h:zh} {base:Nat} {k:TV->zh->Prop} {b:Bool} (hp:Spec X g [] (x.tv::zcS cs) (Ret [] (.bo b))) (hk:k (.bo b) []) :
  ACall X g (x.tv::zcS cs) h base k:=by
 refine za (r:=.bo b) ?_ (by simp[zcu,zea]) hk
 show Spec X g [] (x.tv::(zcS cs).map (zdp h)) _
 rw[zjx]
 exact hp
theorem ztG {p:Thread->Bool} {l:List Thread} (h:∀x∈l,p x=false):l.findIdx? p=none:=by
 rw[List.findIdx?_eq_none_iff]
 exact h
theorem ztR {p:Thread->Bool} {l:List Thread} {i:Nat} (hi:i<l.length) (hj:∀j,j<i->p (l.getD j default)=false) (h:p (l.getD i default)=true):l.findIdx? p=some i:=by
 rw[List.findIdx?_eq_some_iff_getElem]
 refine⟨hi,?_,fun j hlt=>?_⟩
 ·rw[List.getD_eq_getElem?_getD,List.getElem?_eq_getElem hi]at h
  exact h
 ·have:=hj j hlt
  rw[List.getD_eq_getElem?_getD,List.getElem?_eq_getElem (by omega)]at this
  simpa using this
theorem zgj (l:List Thread) (g:Nat) (cs:List DV) (p:Thread->Bool) (hp:∀x∈l,Spec X g [] (x.tv::zcS cs) (Ret [] (.bo (p x)))) :
  Spec X 110 [] [.c (.d (.sl .thread l)),.c (.d (.fn g [] cs))] (Ret [] (.int (zl3 (l.findIdx? p)))):=by
 refine zGO X_ok Tryz.f110 fun hb _=>⟨rfl,?_⟩
 have hla:l.length<=zA:=(hb (.c (.d (.sl .thread l))) (by simp)).1
 unfold zA at hla
 show ∃n,_
 refine⟨0,ALoop.inv (ι:={i:Nat // i<=l.length/\∀j,j<i->p (l.getD j default)=false}) (fun i=>⟨[(0,.c (.d (.sl .thread l))),(1,.c (.d (.fn g [] cs))),(7,.int l.length),(8,.int i.1)],[],32⟩) (fun i=>l.length-i.1) ⟨0,Nat.zero_le _,fun j hj=>absurd hj (by omega)⟩ ?_ ?_⟩
 ·exact⟨[],.cons _ _ _ .same (.cons _ _ _ .same (.cons _ _ _ .same (.cons _ _ _ .same .nil))),.nil,rfl⟩
 ·rintro⟨i,hi,hn⟩
  show ABr (decide ((i:Int)<(l.length:Int))) _ _
  refine⟨fun h=>?_,fun h=>?_⟩
  ·have hlt:i<l.length:=by simpa using h
   show AOb ((0:Int)<=(i:Int)/\(i:Int)<(l.length:Int)) _
   refine⟨by omega,?_⟩
   have hmem:l.getD i default∈l:=by
    rw[List.getD_eq_getElem?_getD,List.getElem?_eq_getElem hlt]
    exact List.getElem_mem hlt
   refine zu4 (hp (l.getD i default) hmem) ?_
   show ABr (p (l.getD i default)) _ _
   refine⟨fun h=>?_,fun h=>?_⟩
   ·show ARet ..
    refine zaA (x:=(i:Int)) ?_ ⟨rfl,rfl⟩
    rw[ztR hlt hn h]
    rfl
   ·show ARound ..
    exact⟨⟨i+1,hlt,fun j hj=>by
     by_cases e:j=i
     ·subst e;exact h
     ·exact hn j (by omega)⟩,by show l.length-(i+1)<l.length-i;omega,[],.cons _ _ _ .same (.cons _ _ _ .same (.cons _ _ _ .same (.cons _ _ _ (.int_eq (zP (i:=i) (by unfold zA;omega))) .nil))),.nil,rfl⟩
  ·have hge:i=l.length:=by simp at h;omega
   show ARet ..
   refine zaA (x:=-1) ?_ ⟨rfl,rfl⟩
   rw[ztG fun x hx=>?_]
   ·rfl
   ·obtain⟨j,hj,e⟩:=List.mem_iff_getElem.1 hx
    have:=hn j (by omega)
    rw[show l.getD j default=x from by rw[List.getD_eq_getElem?_getD,List.getElem?_eq_getElem hj,e];rfl]at this
    exact this
theorem zwU (p:Thread->Bool) (l:List Thread):decide (zl3 (l.findIdx? p)>=0)=l.any p:=by
 cases h:l.findIdx? p with
 |none=>
  rw[List.findIdx?_eq_none_iff]at h
  symm
  show l.any p=decide ((-1:Int)>=0)
  rw[show decide ((-1:Int)>=0)=false by decide,List.any_eq_false]
  intro x hx
  rw[h x hx]
  decide
 |some i=>
  rw[List.findIdx?_eq_some_iff_getElem]at h
  obtain⟨h1,h2,_⟩:=h
  symm
  rw[List.any_eq_true.2 ⟨_,List.getElem_mem h1,h2⟩]
  show true=decide ((i:Int)>=0)
  rw[decide_eq_true (by omega)]
theorem zgv (l:List Thread) (g:Nat) (cs:List DV) (p:Thread->Bool) (hp:∀x∈l,Spec X g [] (x.tv::zcS cs) (Ret [] (.bo (p x)))) :
  Spec X 71 [] [.c (.d (.sl .thread l)),.c (.d (.fn g [] cs))] (Ret [] (.bo (l.any p))):=by
 refine zGO X_ok Tryz.f71 fun hb _=>⟨rfl,?_⟩
 show ACall ..
 refine za (zgj l g cs p hp) rfl ?_
 show ARet ..
 refine zo (x:=decide (zl3 (l.findIdx? p)>=0)) (zwU p l) ⟨rfl,rfl⟩
theorem zr6 (c:Col) (t:Thread):Spec X 204 [] (t.tv::zcS [.rp c.enc]) (Ret [] (.bo (bif t.live then !zad c t else false))):=by
 refine zGO X_ok Tryz.f204 fun hb _=>⟨rfl,?_⟩
 show AIf (t.live=true/\True) _ _
 by_cases hl:t.live=true
 ·refine⟨fun _=>?_,fun h=>absurd ⟨hl,trivial⟩ h⟩
  show ACall ..
  refine za (zhf c t) rfl ?_
  show ARet ..
  refine zo (x:=!zad c t) ?_ ⟨rfl,rfl⟩
  rw[hl]
  rfl
 ·refine⟨fun h=>absurd h.1 hl,fun _=>?_⟩
  show AOb ..
  refine⟨by simpa using hl,?_⟩
  show ARet ..
  refine zo (x:=false) ?_ ⟨rfl,rfl⟩
  rw[show t.live=false by simpa using hl]
  rfl
theorem zvU (c:Col) (l:List Thread):(!l.any fun t=>bif t.live then !zad c t else false)=zju c l:=by
 unfold zju
 rw[List.not_any_eq_all_not]
 congr 1
 funext t
 cases t.live<;>simp
theorem ztt (c:Col) (l:List Thread):Spec X 160 [] [c.tv,.c (.d (.sl .thread l))] (Ret [] (.bo (zju c l))):=by
 refine zGO X_ok Tryz.f160 fun hb hH=>⟨rfl,?_⟩
 show ACall ..
 refine za (zgv l 204 [.rp c.enc] (fun t=>bif t.live then !zad c t else false) (fun x _=>zr6 c x)) rfl ?_
 show ARet ..
 refine zo (x:=!l.any fun t=>bif t.live then !zad c t else false) (zvU c l) ⟨rfl,rfl⟩
theorem ziO (t:Thread):Spec X 167 [] (t.tv::zcS []) (Ret [] (.bo t.live)):=by
 refine zGO X_ok Tryz.f167 fun hb _=>⟨rfl,?_⟩
 show ARet ..
 exact zg rfl ⟨rfl,rfl⟩
def Col.zero:Col:=⟨0,0,false,[],false,0,0,0,0,false⟩
def zi3 (t:Thread) (e s:Int):Thread:={t with live:=true,r0:=0,r1:=0,r2:=0,r3:=0,epoch:=e,stage:=s,root:=0,pc:=0,x:=0,y:=0}
theorem zj3 {c:Col} {t:Thread} {l:List Thread} (h:l.findIdx? (·.live)=none):beginT c t l=zi3 t (if c.phase=0 then 0 else c.epoch) (zbQ c.phase):=by
 unfold beginT
 have:l.find? (·.live)=none:=by rw[List.find?_eq_none];rw[List.findIdx?_eq_none_iff]at h;intro x hx;rw[h x hx];decide
 rw[this]
 rfl
theorem zjH {c:Col} {t:Thread} {l:List Thread} {i:Nat} (h:l.findIdx? (·.live)=some i):i<l.length/\(l.getD i default).live=true/\(∀j,j<i->(l.getD j default).live=false)/\beginT c t l={zi3 t (l.getD i default).epoch (l.getD i default).stage with r0:=(l.getD i default).r0}:=by
 rw[List.findIdx?_eq_some_iff_getElem]at h
 obtain⟨h1,h2,h3⟩:=h
 have hg:l.getD i default=l[i]:=by rw[List.getD_eq_getElem?_getD,List.getElem?_eq_getElem h1];rfl
 refine⟨h1,by rw[hg];exact h2,fun j hj=>?_,?_⟩
 ·have:=h3 j hj
  rw[List.getD_eq_getElem?_getD,List.getElem?_eq_getElem (by omega)]
  simpa using this
 ·unfold beginT
  have:l.find? (·.live)=some l[i]:=by
   rw[List.find?_eq_some_iff_getElem]
   exact⟨h2,i,h1,rfl,fun j hj=>by simpa using h3 j hj⟩
  rw[this,hg]
  rfl
theorem zgT (n low high:Int):Spec X 111 [] [.int n,.int low,.int high] (Ret [] (.bo (decide (low<=n/\n<=high)))):=by
 refine zGO X_ok Tryz.f111 fun hb hH=>⟨rfl,?_⟩
 show ARet ..
 refine zo (x:=bif decide (n>=low) then decide (n<=high) else false) ?_ ⟨rfl,rfl⟩
 by_cases h1:low<=n
 ·rw[decide_eq_true (show n>=low from h1)]
  by_cases h2:n<=high
  ·rw[decide_eq_true h2,decide_eq_true (show low<=n/\n<=high from⟨h1,h2⟩)];rfl
  ·rw[decide_eq_false h2,decide_eq_false (show ¬(low<=n/\n<=high) from fun k=>h2 k.2)];rfl
 ·rw[decide_eq_false (show ¬n>=low from h1),decide_eq_false (show ¬(low<=n/\n<=high) from fun k=>h1 k.1)];rfl
theorem zsv (c:Col):za1 c=(decide (0<=c.phase/\c.phase<=6)&&(decide ((if c.phase=0 then 0 else 1)<=c.epoch/\c.epoch<=1048576)&&decide ((c.work.length:Int)<=4))):=by
 unfold za1
 rw[←Bool.decide_and,←Bool.decide_and]
 exact decide_eq_decide.2 ⟨fun⟨a,b,c,d,e⟩=>⟨⟨a,b⟩,⟨c,d⟩,e⟩,fun⟨⟨a,b⟩,⟨c,d⟩,e⟩=>⟨a,b,c,d,e⟩⟩
theorem zhz (c:Col):Spec X 72 [] [c.tv] (Ret [] (.bo (za1 c))):=by
 refine zGO X_ok Tryz.f72 fun hb hH=>⟨rfl,?_⟩
 rw[zsv]
 show ABr (c.phase==0) _ _
 by_cases h0:c.phase=0
 ·rw[if_pos h0,show(c.phase==0)=true by simpa using h0]
  refine zYE (by decide) ?_
  show ACall ..
  refine za (zgT c.phase 0 6) rfl ?_
  cases hA:decide (0<=c.phase/\c.phase<=6) with
  |false=>
   show AIf ..
   refine⟨fun h=>absurd h.1 (by decide),fun _=>?_⟩
   show AOb ..
   refine⟨by decide,?_⟩
   show ARet ..
   refine zo (x:=bif false then decide ((c.work.length:Int)<=4) else false) rfl ⟨rfl,rfl⟩
  |true=>
   show AIf ..
   refine⟨fun _=>?_,fun h=>absurd ⟨(by rfl),trivial⟩ h⟩
   show ACall ..
   refine za (zgT c.epoch 0 1048576) rfl ?_
   show ARet ..
   refine zo (x:=bif decide (0<=c.epoch/\c.epoch<=1048576) then decide ((c.work.length:Int)<=4) else false) (by cases decide (0<=c.epoch/\c.epoch<=1048576)<;>rfl) ⟨rfl,rfl⟩
 ·rw[if_neg h0,show(c.phase==0)=false by simpa using h0]
  refine zNO (by decide) ?_
  show ACall ..
  refine za (zgT c.phase 0 6) rfl ?_
  cases hA:decide (0<=c.phase/\c.phase<=6) with
  |false=>
   show AIf ..
   refine⟨fun h=>absurd h.1 (by decide),fun _=>?_⟩
   show AOb ..
   refine⟨by decide,?_⟩
   show ARet ..
   refine zo (x:=bif false then decide ((c.work.length:Int)<=4) else false) rfl ⟨rfl,rfl⟩
  |true=>
   show AIf ..
   refine⟨fun _=>?_,fun h=>absurd ⟨(by rfl),trivial⟩ h⟩
   show ACall ..
   refine za (zgT c.epoch 1 1048576) rfl ?_
   show ARet ..
   refine zo (x:=bif decide (1<=c.epoch/\c.epoch<=1048576) then decide ((c.work.length:Int)<=4) else false) (by cases decide (1<=c.epoch/\c.epoch<=1048576)<;>rfl) ⟨rfl,rfl⟩
theorem zfp (c:Col):Spec X 219 [] [c.tv] (Ret [] (.bo (decide (c.phase=0)))):=by
 refine zGO X_ok Tryz.f219 fun hb hH=>⟨rfl,?_⟩
 show ARet ..
 refine zo (x:=c.phase==0) rfl ⟨rfl,rfl⟩
theorem zja {c:Col} {m:Bool} (h:zaw c≠0):zbx c m=Col.none:=by unfold zbx;rw[if_neg h]
theorem zru {c:Col} {m:Bool} (h:zaw c=0):zbx c m=⟨1,c.epoch+1,m,[],false,0,0,0,0,false⟩:=by unfold zbx;rw[if_pos h]
theorem zol (c:Col):(za1 c=false/\zaw c=1)\/(za1 c=true/\c.phase≠0/\zaw c=4)\/(za1 c=true/\c.phase=0/\c.epoch=1048576/\zaw c=2)\/(za1 c=true/\c.phase=0/\c.epoch≠1048576/\zaw c=0):=by
 unfold zaw
 cases h:za1 c with
 |false=>exact .inl ⟨rfl,if_neg (by decide)⟩
 |true=>
  rw[if_pos rfl]
  by_cases h0:c.phase=0
  ·rw[if_pos h0]
   by_cases h1:c.epoch=1048576
   ·exact .inr (.inr (.inl ⟨rfl,h0,h1,if_pos h1⟩))
   ·exact .inr (.inr (.inr ⟨rfl,h0,h1,if_neg h1⟩))
  ·rw[if_neg h0]
   exact .inr (.inl ⟨rfl,h0,rfl⟩)
theorem znT (c:Col) (m:Bool):Spec X 165 [] [c.tv,.bo m] (Ret [] (.tup [(zbx c m).tv,.int (zaw c)])):=by
 refine zGO X_ok Tryz.f165 fun hb hH=>⟨rfl,?_⟩
 show ACall ..
 refine za (zhz c) rfl ?_
 rcases zol c with⟨h1,e⟩|⟨h1,h2,e⟩|⟨h1,h2,h3,e⟩|⟨h1,h2,h3,e⟩
 ·rw[zja (by omega),e,h1]
  refine zYE (by decide) ?_
  show ARet ..
  exact⟨[],[],[Col.none.tv,.int 1],.cons _ _ _ _ (.agg _ _ (.cons _ _ _ _ (.d _) (.cons _ _ _ _ (.d _) (.cons _ _ _ _ (.d _) (.cons _ _ _ _ (.nilsl .int) (zb rfl)))))) (.cons _ _ _ _ .same .nil),.nil,rfl,rfl,rfl⟩
 ·rw[zja (by omega),e,h1]
  refine zNO (by decide) ?_
  show ACall ..
  refine za (zfp c) rfl ?_
  rw[decide_eq_false h2]
  refine zYE (by decide) ?_
  show ARet ..
  exact⟨[],[],[Col.none.tv,.int 4],.cons _ _ _ _ (.agg _ _ (.cons _ _ _ _ (.d _) (.cons _ _ _ _ (.d _) (.cons _ _ _ _ (.d _) (.cons _ _ _ _ (.nilsl .int) (zb rfl)))))) (.cons _ _ _ _ .same .nil),.nil,rfl,rfl,rfl⟩
 ·rw[zja (by omega),e,h1]
  refine zNO (by decide) ?_
  show ACall ..
  refine za (zfp c) rfl ?_
  rw[decide_eq_true h2]
  refine zNO (by decide) ?_
  show ABr (c.epoch==1048576) _ _
  rw[show(c.epoch==1048576)=true by simpa using h3]
  refine zYE (by decide) ?_
  show ARet ..
  exact⟨[],[],[Col.none.tv,.int 2],.cons _ _ _ _ (.agg _ _ (.cons _ _ _ _ (.d _) (.cons _ _ _ _ (.d _) (.cons _ _ _ _ (.d _) (.cons _ _ _ _ (.nilsl .int) (zb rfl)))))) (.cons _ _ _ _ .same .nil),.nil,rfl,rfl,rfl⟩
 ·have hc:=zdy h1
  rw[zru e,e,h1]
  refine zNO (by decide) ?_
  show ACall ..
  refine za (zfp c) rfl ?_
  rw[decide_eq_true h2]
  refine zNO (by decide) ?_
  show ABr (c.epoch==1048576) _ _
  rw[show(c.epoch==1048576)=false by simpa using h3]
  refine zNO (by decide) ?_
  show ARet ..
  exact⟨[],[],[(⟨1,c.epoch+1,m,[],false,0,0,0,0,false⟩:Col).tv,.int 0],.cons _ _ _ _ (.agg _ _ (.cons _ _ _ _ (.d _) (.cons _ _ _ _ (.int_eq (zu (by omega) (by omega))) (.cons _ _ _ _ (.d _) (.cons _ _ _ _ (.nilsl .int) (zb rfl)))))) (.cons _ _ _ _ .same .nil),.nil,rfl,rfl,rfl⟩
theorem zhx (g:Hp) (c:Col) (hs:g.small) (hw:c.work.length<=zi):Spec X 159 [] [g.tv,c.tv] (Ret [] (.tup [g.tv,c.tv])):=by
 refine zGO X_ok Tryz.f159 fun hb hH=>⟨rfl,?_⟩
 obtain⟨h1,h2,h3,h4,h5,h6⟩:=hs
 show ADCall ..
 refine .mk _ _ (zd g.w h1) rfl ?_
 show ADCall ..
 refine .mk _ _ (zab g.pages h2) rfl ?_
 show ADCall ..
 refine .mk _ _ (zae g.cards h3) rfl ?_
 show ∃n,_
 refine⟨4,?_⟩
 show ALoop ..
 refine .next ?_
 refine zYE (by decide) ?_
 show AOb ..
 refine⟨by decide,?_⟩
 show ACall ..
 refine za (zd g.free.l0 h4) rfl ?_
 show AOb ..
 refine⟨by decide,?_⟩
 show ALoop ..
 refine .next ?_
 refine zYE (by decide) ?_
 show AOb ..
 refine⟨by decide,?_⟩
 show ACall ..
 refine za (zd g.free.l1 h5) rfl ?_
 show AOb ..
 refine⟨by decide,?_⟩
 show ALoop ..
 refine .next ?_
 refine zYE (by decide) ?_
 show AOb ..
 refine⟨by decide,?_⟩
 show ACall ..
 refine za (zd g.free.l2 h6) rfl ?_
 show AOb ..
 refine⟨by decide,?_⟩
 show ALoop ..
 refine .next ?_
 refine zNO (by decide) ?_
 show ACall ..
 refine za (zd c.work hw) rfl ?_
 show ARet ..
 exact zg rfl ⟨rfl,rfl⟩
theorem zpl (c:Col) (h:1<=c.phase) (h3:c.phase<=3):Spec X 161 [] [c.tv] (Ret [] (zhj c).tv):=by
 refine zGO X_ok Tryz.f161 fun hb hH=>⟨rfl,?_⟩
 have w:IntKind.i64.wrap (c.phase+1)=c.phase+1:=zu (by omega) (by omega)
 unfold zhj
 show ABr (IntKind.i64.wrap (c.phase+1)==4) _ _
 by_cases hp:c.phase=3
 ·rw[if_pos hp,show(IntKind.i64.wrap (c.phase+1)==4)=true by rw[w,hp];rfl]
  refine zYE (by decide) ?_
  show ABr c.major _ _
  cases hm:c.major with
  |true=>
   refine zYE (by decide) ?_
   show ARet ..
   exact zg rfl ⟨rfl,rfl⟩
  |false=>
   refine zNO (by decide) ?_
   show ARet ..
   refine zfM (.agg _ _ (.cons _ _ _ _ (.int_eq (y:=4) (by rw[w,hp];rfl)) (zb rfl))) ⟨rfl,rfl⟩
 ·rw[if_neg hp,show(IntKind.i64.wrap (c.phase+1)==4)=false by rw[w];simp;omega]
  refine zNO (by decide) ?_
  show ARet ..
  refine zfM (.agg _ _ (.cons _ _ _ _ (.int_eq (y:=c.phase+1) w) (zb rfl))) ⟨rfl,rfl⟩
theorem zfW (g:Hp) (c:Col) (l:List Thread) (hs:g.small) (hw:c.work.length<=zi) (h:1<=c.phase) (h3:c.phase<=3):Spec X 158 [] [g.tv,c.tv,.c (.d (.rp [.sl .thread l]))] (Ret [] (.tup [g.tv,(zmn c l).tv])):=by
 refine zGO X_ok Tryz.f158 fun hb hH=>⟨rfl,?_⟩
 show ACall ..
 refine za (zhx g c hs hw) rfl ?_
 show ACall ..
 refine za (ztt c l) rfl ?_
 unfold zmn
 cases ha:zju c l with
 |true=>
  rw[if_pos rfl]
  refine zYE (by decide) ?_
  show ACall ..
  refine za (zpl c h h3) rfl ?_
  show ARet ..
  exact zg rfl ⟨rfl,rfl⟩
 |false=>
  rw[if_neg (by decide)]
  refine zNO (by decide) ?_
  show ARet ..
  exact zg rfl ⟨rfl,rfl⟩
theorem zsU {g:Hp} {c:Col} {l:List Thread} (h:¬(za1 c=true/\c.phase≠0)):zb5 g c l=(g,c):=by unfold zb5;rw[if_neg h]
theorem zjn {g:Hp} {c:Col} {l:List Thread} (hm:za1 c=true) (h:1<=c.phase) (h3:c.phase<=3):zb5 g c l=(g,zmn c l):=by unfold zb5;rw[if_pos ⟨hm,by omega⟩,if_neg (by omega),if_neg (by omega),if_neg (by omega)]
theorem zxO {g:Hp} {c:Col} {l:List Thread} (hm:za1 c=true) (h:c.phase=4):zb5 g c l=zj6 g c:=by unfold zb5;rw[if_pos ⟨hm,by omega⟩,if_pos h]
theorem zxS {g:Hp} {c:Col} {l:List Thread} (hm:za1 c=true) (h:c.phase=5):zb5 g c l=zgf g c:=by unfold zb5;rw[if_pos ⟨hm,by omega⟩,if_neg (by omega),if_pos h]
theorem zxB {g:Hp} {c:Col} {l:List Thread} (hm:za1 c=true) (h:c.phase=6):zb5 g c l=zfS g c:=by unfold zb5;rw[if_pos ⟨hm,by omega⟩,if_neg (by omega),if_neg (by omega),if_pos h]
set_option maxHeartbeats 4000000 in
theorem zoB (g:Hp) (c:Col) (l:List Thread) (hl:g.light) (hs:g.small) (hw:c.work.length<zi):Spec X 117 [] [g.tv,c.tv,.c (.d (.sl .thread l))] (Ret [] (.tup [(zb5 g c l).1.tv,(zb5 g c l).2.tv])):=by
 obtain⟨ph,ep,mj,wk,ov,ca,cf,ck,cc,cm⟩:=c
 refine Spec.fb (zGO zyn Tryz.f117 fun hb hH=>⟨rfl,?_⟩)
 show ACall ..
 refine za ((zhz ⟨ph,ep,mj,wk,ov,ca,cf,ck,cc,cm⟩).ub) rfl ?_
 cases hm:za1 ⟨ph,ep,mj,wk,ov,ca,cf,ck,cc,cm⟩ with
 |false=>
  rw[zsU (fun k=>by rw[hm]at k;cases k.1)]
  refine zYE (by decide) ?_
  show ACall ..
  refine za ((zhx g ⟨ph,ep,mj,wk,ov,ca,cf,ck,cc,cm⟩ hs (by omega)).ub) rfl ?_
  show ARet ..
  exact zg rfl ⟨rfl,rfl⟩
 |true=>
  refine zNO (by decide) ?_
  obtain⟨m1,m2,_⟩:=zdy hm
  have hc:ph=0\/ph=1\/ph=2\/ph=3\/ph=4\/ph=5\/ph=6:=by
   have m1:0<=ph:=m1
   have m2:ph<=6:=m2
   omega
  rcases hc with e|e|e|e|e|e|e
  ·subst e
   rw[zsU (fun k=>k.2 rfl)]
   show AOb ((0:Int)<=0/\(0:Int)<7) _
   refine⟨by decide,?_⟩
   show ADCall ..
   refine .mk _ _ ((zhx g _ hs (by omega)).ub) rfl ?_
   show ARet ..
   exact zg rfl ⟨rfl,rfl⟩
  ·subst e
   rw[zjn hm (by show(1:Int)<=1;decide) (by show(1:Int)<=3;decide)]
   show AOb ((0:Int)<=1/\(1:Int)<7) _
   refine⟨by decide,?_⟩
   show ADCall ..
   refine .mk _ _ ((zfW g _ l hs (by omega) (by show(1:Int)<=1;decide) (by show(1:Int)<=3;decide)).ub) rfl ?_
   show ARet ..
   exact zg rfl ⟨rfl,rfl⟩
  ·subst e
   rw[zjn hm (by show(1:Int)<=2;decide) (by show(2:Int)<=3;decide)]
   show AOb ((0:Int)<=2/\(2:Int)<7) _
   refine⟨by decide,?_⟩
   show ADCall ..
   refine .mk _ _ ((zfW g _ l hs (by omega) (by show(1:Int)<=2;decide) (by show(2:Int)<=3;decide)).ub) rfl ?_
   show ARet ..
   exact zg rfl ⟨rfl,rfl⟩
  ·subst e
   rw[zjn hm (by show(1:Int)<=3;decide) (by show(3:Int)<=3;decide)]
   show AOb ((0:Int)<=3/\(3:Int)<7) _
   refine⟨by decide,?_⟩
   show ADCall ..
   refine .mk _ _ ((zfW g _ l hs (by omega) (by show(1:Int)<=3;decide) (by show(3:Int)<=3;decide)).ub) rfl ?_
   show ARet ..
   exact zg rfl ⟨rfl,rfl⟩
  ·subst e
   rw[zxO hm rfl]
   show AOb ((0:Int)<=4/\(4:Int)<7) _
   refine⟨by decide,?_⟩
   show ADCall ..
   refine .mk _ _ ((zrx g _ hl hs hw).ub) rfl ?_
   show ARet ..
   exact zg rfl ⟨rfl,rfl⟩
  ·subst e
   rw[zxS hm rfl]
   show AOb ((0:Int)<=5/\(5:Int)<7) _
   refine⟨by decide,?_⟩
   show ADCall ..
   refine .mk _ _ ((zrq g _ hl hs hw).ub) rfl ?_
   show ARet ..
   exact zg rfl ⟨rfl,rfl⟩
  ·subst e
   rw[zxB hm rfl]
   show AOb ((0:Int)<=6/\(6:Int)<7) _
   refine⟨by decide,?_⟩
   show ADCall ..
   refine .mk _ _ ((zqB g _ hl hs (by omega)).ub) rfl ?_
   show ARet ..
   exact zg rfl ⟨rfl,rfl⟩
set_option maxRecDepth 60000
set_option maxHeartbeats 4000000
theorem zlS {α β:Type} [Inhabited α] (f:α->β) {l:List α} {i:Nat} (h:i<l.length):(l.take (i+1)).map f=(l.take i).map f++[f (l.getD i default)]:=by
 rw[List.take_add_one,List.getElem?_eq_getElem h,List.getD_eq_getElem?_getD,List.getElem?_eq_getElem h,List.map_append]
 rfl
theorem zcg {α:Type} [Inhabited α] {l:List α} {i:Nat} (h:i<l.length):l.getD i default∈l:=by
 rw[List.getD_eq_getElem?_getD,List.getElem?_eq_getElem h]
 exact List.getElem_mem h
theorem znu (w:Wd) (hl:w.t.length<=4) (hc:∀t∈w.t,t.ok):Spec X 68 [] [w.tv] (Ret [(0,.data .lists (zY w))] (.c (.own 0))):=by
 refine zGO X_ok Tryz.f68 fun hb hH=>⟨rfl,?_⟩
 show ∃n,_
 refine⟨0,ALoop.inv (ι:={i:Nat // i<=w.t.length}) (fun q=>⟨[(3,.c (.own 1)),(10,.c (.d (.sl .thread (w.t)))),(11,.int ((w.t.length:Int))),(12,.int (q.1))],[(1,.data .lists ((w.t.take q.1).map (·.cache)))],64⟩) (fun q=>w.t.length-q.1) ⟨0,Nat.zero_le _⟩ ?_ ?_⟩
 ·exact⟨[],(by repeat' first|exact .nil|refine .cons _ _ _ ?_ ?_|exact .c _ _ (.nilown 1 .lists rfl rfl)|exact .same|exact .c _ _ (.own _ _ rfl)|exact .c _ _ (.ptr _ _ _ _ rfl)|exact .c _ _ (.frz _ _ rfl)|exact .any _),(by exact .new 1 .lists _ rfl .nil),(by rfl)⟩
 rintro⟨i,hi⟩
 show ABr (decide ((i:Int)<(w.t.length:Int))) _ _
 refine⟨fun h=>?_,fun h=>?_⟩
 ·have hlt:i<w.t.length:=by simpa using h
  have wi:IntKind.i64.wrap ((i:Int)+1)=((i+1:Nat):Int):=zP (i:=i) (by unfold zA;omega)
  show AOb ((0:Int)<=(i:Int)/\(i:Int)<(w.t.length:Int)) _
  refine⟨by omega,?_⟩
  obtain⟨_,t2,t3,t4⟩:=hc _ (zcg hlt)
  show ∃n,_
  refine⟨4,?_⟩
  show ALoop ..
  refine .next ?_
  refine zYE (by decide) ?_
  show AOb ..
  refine⟨by decide,?_⟩
  show ACall ..
  refine za (zd (w.t.getD i default).cache.l0 t2) rfl ?_
  show AOb ..
  refine⟨by decide,?_⟩
  show ALoop ..
  refine .next ?_
  refine zYE (by decide) ?_
  show AOb ..
  refine⟨by decide,?_⟩
  show ACall ..
  refine za (zd (w.t.getD i default).cache.l1 t3) rfl ?_
  show AOb ..
  refine⟨by decide,?_⟩
  show ALoop ..
  refine .next ?_
  refine zYE (by decide) ?_
  show AOb ..
  refine⟨by decide,?_⟩
  show ACall ..
  refine za (zd (w.t.getD i default).cache.l2 t4) rfl ?_
  show AOb ..
  refine⟨by decide,?_⟩
  show ALoop ..
  refine .next ?_
  refine zNO (by decide) ?_
  show AOb (((w.t.take i).map (·.cache)).length+1<=zi) _
  refine⟨by rw[List.length_map,List.length_take];unfold zi;omega,?_⟩
  show ARound ..
  exact⟨⟨i+1,hlt⟩,(by dsimp only;omega),[(_,1)],(by repeat' first|exact .nil|refine .cons _ _ _ ?_ ?_|exact .c _ _ (.own1 _ _)|exact .int_eq wi|exact .same|exact .c _ _ (.own _ _ rfl)|exact .c _ _ (.ptr _ _ _ _ rfl)|exact .c _ _ (.frz _ _ rfl)|exact .any _),(by exact .old 1 _ _ _ _ rfl rfl (.data_eq (zlS (·.cache) hlt).symm) .nil),(by rfl)⟩
 ·have hfin:(w.t.take i).map (·.cache)=zY w:=by
   rw[show i=w.t.length by simp at h;omega,List.take_length];rfl
  show ARet ..
  exact⟨[(1,0)],[(0,.data .lists (zY w))],[.c (.own 0)],.cons _ _ _ _ (.c _ _ (.own1 _ _)) .nil,.old 0 1 _ _ _ rfl rfl (.data_eq hfin) .nil,rfl,rfl,rfl⟩
theorem zme (w:Wd) (hl:w.t.length<=4) (hc:∀t∈w.t,t.ok):Spec X 68 [(16,.data .thread w.t),(17,.data .res w.log)] [.agg (wdO w 16 17)] (fun H r=>H=[(0,.data .lists (zY w)),(16,.data .thread w.t),(17,.data .res w.log)]/\r = .c (.own 0)):=by
 refine zGO X_ok Tryz.f68 fun hb hH=>⟨rfl,?_⟩
 show ∃n,_
 refine⟨0,ALoop.inv (ι:={i:Nat // i<=w.t.length}) (fun q=>⟨[(3,.c (.own 1)),(10,.c (.own 16)),(11,.int ((w.t.length:Int))),(12,.int (q.1))],[(1,.data .lists ((w.t.take q.1).map (·.cache))),(16,.data .thread w.t),(17,.data .res w.log)],64⟩) (fun q=>w.t.length-q.1) ⟨0,Nat.zero_le _⟩ ?_ ?_⟩
 ·exact⟨[(16,16),(17,17)],(by repeat' first|exact .nil|refine .cons _ _ _ ?_ ?_|exact .c _ _ (.nilown 1 .lists rfl rfl)|exact .same|exact .c _ _ (.own _ _ rfl)|exact .c _ _ (.ptr _ _ _ _ rfl)|exact .c _ _ (.frz _ _ rfl)|exact .any _),(by exact .new 1 .lists _ rfl (.old 16 16 _ _ _ rfl rfl (.data_eq rfl) (.old 17 17 _ _ _ rfl rfl (.data_eq rfl) .nil))),(by rfl)⟩
 rintro⟨i,hi⟩
 show ABr (decide ((i:Int)<(w.t.length:Int))) _ _
 refine⟨fun h=>?_,fun h=>?_⟩
 ·have hlt:i<w.t.length:=by simpa using h
  have wi:IntKind.i64.wrap ((i:Int)+1)=((i+1:Nat):Int):=zP (i:=i) (by unfold zA;omega)
  show AOb ((0:Int)<=(i:Int)/\(i:Int)<(w.t.length:Int)) _
  refine⟨by omega,?_⟩
  obtain⟨_,t2,t3,t4⟩:=hc _ (zcg hlt)
  show AOb ..
  refine⟨by exact hlt,?_⟩
  show ∃n,_
  refine⟨4,?_⟩
  show ALoop ..
  refine .next ?_
  refine zYE (by decide) ?_
  show AOb ..
  refine⟨by decide,?_⟩
  show ACall ..
  refine za (zd (w.t.getD i default).cache.l0 t2) rfl ?_
  show AOb ..
  refine⟨by decide,?_⟩
  show ALoop ..
  refine .next ?_
  refine zYE (by decide) ?_
  show AOb ..
  refine⟨by decide,?_⟩
  show ACall ..
  refine za (zd (w.t.getD i default).cache.l1 t3) rfl ?_
  show AOb ..
  refine⟨by decide,?_⟩
  show ALoop ..
  refine .next ?_
  refine zYE (by decide) ?_
  show AOb ..
  refine⟨by decide,?_⟩
  show ACall ..
  refine za (zd (w.t.getD i default).cache.l2 t4) rfl ?_
  show AOb ..
  refine⟨by decide,?_⟩
  show ALoop ..
  refine .next ?_
  refine zNO (by decide) ?_
  show AOb (((w.t.take i).map (·.cache)).length+1<=zi) _
  refine⟨by rw[List.length_map,List.length_take];unfold zi;omega,?_⟩
  show ARound ..
  exact⟨⟨i+1,hlt⟩,(by dsimp only;omega),[(_,1),(16,16),(17,17)],(by repeat' first|exact .nil|refine .cons _ _ _ ?_ ?_|exact .c _ _ (.own1 _ _)|exact .c _ _ (.own _ _ rfl)|exact .int_eq wi|exact .same|exact .c _ _ (.own _ _ rfl)|exact .c _ _ (.ptr _ _ _ _ rfl)|exact .c _ _ (.frz _ _ rfl)|exact .any _),(by exact .old 1 _ _ _ _ rfl rfl (.data_eq (zlS (·.cache) hlt).symm) (.old 16 16 _ _ _ rfl rfl (.data_eq rfl) (.old 17 17 _ _ _ rfl rfl (.data_eq rfl) .nil))),(by rfl)⟩
 ·have hfin:(w.t.take i).map (·.cache)=zY w:=by
   rw[show i=w.t.length by simp at h;omega,List.take_length];rfl
  show ARet ..
  exact⟨[(1,0),(16,16),(17,17)],[(0,.data .lists (zY w)),(16,.data .thread w.t),(17,.data .res w.log)],[.c (.own 0)],.cons _ _ _ _ (.c _ _ (.own _ _ rfl)) .nil,.old 0 1 _ _ _ rfl rfl (.data_eq hfin) (.old 16 16 _ _ _ rfl rfl (.data_eq rfl) (.old 17 17 _ _ _ rfl rfl (.data_eq rfl) .nil)),rfl,rfl,rfl⟩
theorem zsF (t:Thread):Spec X 69 [] (t.tv::zcS []) (Ret [] (.bo (!decide t.mayT))):=by
 refine zGO X_ok Tryz.f69 fun hb _=>⟨rfl,?_⟩
 show ACall ..
 refine za (zkR t) rfl ?_
 show ARet ..
 exact zg rfl ⟨rfl,rfl⟩
theorem zmo (w:Wd) (hc:∀t∈w.t,t.ok) (hf:w.t.length<=4->(flats (zec w.h (zY w))).length<=zi):Spec X 36 [] [w.tv] (Ret [] (.bo (zaP w))):=by
 refine zGO X_ok Tryz.f36 fun hb hH=>⟨rfl,?_⟩
 unfold zaP
 show ABr (decide ((w.t.length:Int)<=4)) _ _
 by_cases h1:w.t.length<=4
 ·rw[decide_eq_true (show(w.t.length:Int)<=4 by omega),decide_eq_true h1]
  refine zYE (by decide) ?_
  show ADCall ..
  refine .mk _ _ (zgv w.t 69 [] (fun t=>!decide t.mayT) (fun x _=>zsF x)) rfl ?_
  cases h2:w.t.any fun t=>!decide t.mayT with
  |true=>
   refine zNO (by decide) ?_
   refine zNO (by decide) ?_
   show ARet ..
   exact zg rfl ⟨rfl,rfl⟩
  |false=>
   refine zYE (by decide) ?_
   show ADCall ..
   refine .mk _ _ (zhz w.c) rfl ?_
   cases h3:za1 w.c with
   |false=>
    refine zNO (by decide) ?_
    show ARet ..
    exact zg rfl ⟨rfl,rfl⟩
   |true=>
    refine zYE (by decide) ?_
    show ADCall ..
    refine .mk _ _ (znu w h1 hc) rfl ?_
    show ADCall ..
    refine .mk _ _ (zqY w.h (zY w) (hf h1) (by unfold zY;rw[List.length_map];unfold zi;omega)) rfl ?_
    show ARet ..
    exact zg rfl ⟨rfl,rfl⟩
 ·rw[decide_eq_false (show ¬(w.t.length:Int)<=4 by omega),decide_eq_false h1]
  refine zNO (by decide) ?_
  refine zNO (by decide) ?_
  refine zNO (by decide) ?_
  show ARet ..
  exact zg rfl ⟨rfl,rfl⟩
theorem znx (l:List Thread) (h:l.length<=zi):Spec X 66 [] [.c (.d (.sl .thread l))] (Ret [(0,.data .thread l)] (.c (.own 0))):=by
 refine zGO X_ok Tryz.f66 fun hb _=>⟨rfl,?_⟩
 intro b (hnil:b=true->l=[])
 show ABr ..
 refine⟨fun hb=>?_,fun hb=>?_⟩
 ·have e:=hnil hb
  subst e
  show ARet ..
  exact⟨[],[(0,.data .thread [])],[.c (.own 0)],.cons _ _ _ _ (.c _ _ (.nilown 0 .thread rfl rfl)) .nil,.new 0 .thread _ rfl .nil,rfl,rfl,rfl⟩
 ·show AOb (0+l.length<=zi) _
  refine⟨by omega,?_⟩
  show ARet ..
  exact⟨[(_,0)],[(0,.data .thread l)],[.c (.own 0)],.cons _ _ _ _ (.c _ _ (.own1 _ _)) .nil,.old 0 _ _ _ _ rfl rfl (.data_eq rfl) .nil,rfl,rfl,rfl⟩
theorem zmk (l:List Res) (h:l.length<=zi):Spec X 67 [] [.c (.d (.sl .res l))] (Ret [(0,.data .res l)] (.c (.own 0))):=by
 refine zGO X_ok Tryz.f67 fun hb _=>⟨rfl,?_⟩
 intro b (hnil:b=true->l=[])
 show ABr ..
 refine⟨fun hb=>?_,fun hb=>?_⟩
 ·have e:=hnil hb
  subst e
  show ARet ..
  exact⟨[],[(0,.data .res [])],[.c (.own 0)],.cons _ _ _ _ (.c _ _ (.nilown 0 .res rfl rfl)) .nil,.new 0 .res _ rfl .nil,rfl,rfl,rfl⟩
 ·show AOb (0+l.length<=zi) _
  refine⟨by omega,?_⟩
  show ARet ..
  exact⟨[(_,0)],[(0,.data .res l)],[.c (.own 0)],.cons _ _ _ _ (.c _ _ (.own1 _ _)) .nil,.old 0 _ _ _ _ rfl rfl (.data_eq rfl) .nil,rfl,rfl,rfl⟩
theorem zqz {α:Type} [Inhabited α] {l:List α} {i:Nat} (h:i<l.length):l.set i (l.getD i default)=l:=by
 rw[List.getD_eq_getElem?_getD,List.getElem?_eq_getElem h]
 exact List.set_getElem_self h
theorem zs2 {l:List Thread} {i j:Nat} {x:Thread} (h:j<l.length):j<(l.set i x).length:=by rw[List.length_set];exact h
theorem zw9 {l:List Thread} {i:Nat} (h:i<l.length):(l.set i (l.getD i default)).set i {(l.set i (l.getD i default)).getD i default with cache:=(l.map (·.cache)).getD i default}=l:=by
 rw[zqz h]
 have e:(l.map (·.cache)).getD i default=(l.getD i default).cache:=by
  rw[List.getD_eq_getElem?_getD,List.getD_eq_getElem?_getD,List.getElem?_map,List.getElem?_eq_getElem h]
  rfl
 rw[e]
 exact zqz h
theorem zmZ (w:Wd) (hF:w.Fit):Spec X 35 [] [w.tv] (Ret [(0,.data .thread w.t),(1,.data .res w.log)] (.agg (wdO w 0 1))):=by
 refine zGO X_ok Tryz.f35 fun hb hH=>⟨rfl,?_⟩
 obtain⟨⟨h1,h2,h3,h4,h5,h6⟩,hw,hl,hth,_,hlog⟩:=hF
 show ADCall ..
 refine .mk _ _ (zd w.h.w h1) rfl ?_
 show ADCall ..
 refine .mk _ _ (zab w.h.pages h2) rfl ?_
 show ADCall ..
 refine .mk _ _ (zae w.h.cards h3) rfl ?_
 show ∃n,_
 refine⟨4,?_⟩
 show ALoop ..
 refine .next ?_
 refine zYE (by decide) ?_
 show AOb ..
 refine⟨by decide,?_⟩
 show ACall ..
 refine za (zd w.h.free.l0 h4) rfl ?_
 show AOb ..
 refine⟨by decide,?_⟩
 show ALoop ..
 refine .next ?_
 refine zYE (by decide) ?_
 show AOb ..
 refine⟨by decide,?_⟩
 show ACall ..
 refine za (zd w.h.free.l1 h5) rfl ?_
 show AOb ..
 refine⟨by decide,?_⟩
 show ALoop ..
 refine .next ?_
 refine zYE (by decide) ?_
 show AOb ..
 refine⟨by decide,?_⟩
 show ACall ..
 refine za (zd w.h.free.l2 h6) rfl ?_
 show AOb ..
 refine⟨by decide,?_⟩
 show ALoop ..
 refine .next ?_
 refine zNO (by decide) ?_
 show ADCall ..
 refine .mk _ _ (zd w.c.work (Nat.le_of_lt hw)) rfl ?_
 show ADCall ..
 refine .mk _ _ (znx w.t (by unfold zi;omega)) rfl ?_
 show ADCall ..
 refine .mk _ _ (zmk w.log (Nat.le_of_lt hlog)) rfl ?_
 show ACall ..
 refine .hand [(2464,16),(2560,17)] [(16,.data .thread w.t),(17,.data .res w.log)] [.agg (wdO w 16 17)] _ (.cons _ _ _ _ (.agg _ _ ?_) .nil) (.old 16 2464 _ _ _ rfl rfl (.data_eq rfl) (.old 17 2560 _ _ _ rfl rfl (.data_eq rfl) .nil)) rfl (zme w hl fun t ht=>(hth t ht).1) ?_
 ·repeat (first|exact .nil|refine .cons _ _ _ _ (.d _) ?_|refine .cons _ _ _ _ (.own _ _ rfl) ?_)
 rintro H r ⟨rfl,rfl⟩ _ _
 refine⟨rfl,.inl rfl,?_⟩
 show ∃n,_
 refine⟨0,ALoop.inv (ι:={i:Nat // i<=w.t.length}) (fun q=>⟨[(1,.c (.ptr 0 0 0)),(2,.c (.ptr 1 0 0)),(5,.c (.own 4)),(57,.int ((w.t.length:Int))),(58,.int (q.1))],[(0,.vars (wdO w 2 3)),(1,.vars (List.replicate 18 .any)),(2,.data .thread w.t),(3,.data .res w.log),(4,.data .lists (zY w))],64⟩) (fun q=>w.t.length-q.1) ⟨0,Nat.zero_le _⟩ ?_ ?_⟩
 ·exact⟨[(32,0),(64,1),(2464,2),(2560,3),(2848,4)],(by repeat' first|exact .nil|refine .cons _ _ _ ?_ ?_|exact .c _ _ (.ptr _ _ _ _ rfl)|exact .c _ _ (.own _ _ rfl)|exact .same|exact .c _ _ (.own _ _ rfl)|exact .c _ _ (.ptr _ _ _ _ rfl)|exact .c _ _ (.frz _ _ rfl)|exact .any _),(by exact .old 0 32 _ _ _ rfl rfl (.vars _ _ (by repeat (first|exact .nil|refine .cons _ _ _ _ (.d _) ?_|refine .cons _ _ _ _ (.own _ _ rfl) ?_))) (.old 1 64 _ _ _ rfl rfl (.vars _ _ (by repeat (first|exact .nil|refine .cons _ _ _ _ (.any _) ?_))) (.old 2 2464 _ _ _ rfl rfl (.data_eq rfl) (.old 3 2560 _ _ _ rfl rfl (.data_eq rfl) (.old 4 2848 _ _ _ rfl rfl (.data_eq rfl) .nil))))),(by rfl)⟩
 rintro⟨i,hi⟩
 show ABr (decide ((i:Int)<(w.t.length:Int))) _ _
 refine⟨fun h=>?_,fun h=>?_⟩
 ·have hlt:i<w.t.length:=by simpa using h
  have wi:IntKind.i64.wrap ((i:Int)+1)=((i+1:Nat):Int):=zP (i:=i) (by unfold zA;omega)
  have hcl:i<(zY w).length:=by unfold zY;rw[List.length_map];exact hlt
  show AOb ..
  refine⟨by exact⟨Int.natCast_nonneg _,Int.ofNat_lt.2 hlt⟩,?_⟩
  show AOb ..
  refine⟨by exact hlt,?_⟩
  show ADCall ..
  refine .mk _ _ (zcb (w.t.getD i default).ops (hth _ (zcg hlt)).1.1) rfl ?_
  show AOb ..
  refine⟨by exact⟨Int.natCast_nonneg _,Int.ofNat_lt.2 hcl⟩,?_⟩
  show AOb ..
  refine⟨by exact hcl,?_⟩
  show AOb ..
  refine⟨by exact⟨Int.natCast_nonneg _,Int.ofNat_lt.2 hlt⟩,?_⟩
  show AOb ..
  refine⟨by exact hlt,?_⟩
  show AOb ..
  refine⟨by exact⟨Int.natCast_nonneg _,Int.ofNat_lt.2 (zs2 hlt)⟩,?_⟩
  show AOb ..
  refine⟨by exact zs2 hlt,?_⟩
  show ARound ..
  exact⟨⟨i+1,hlt⟩,(by dsimp only;omega),[(0,0),(1,1),(2,2),(3,3),(4,4)],(by repeat' first|exact .nil|refine .cons _ _ _ ?_ ?_|exact .c _ _ (.ptr _ _ _ _ rfl)|exact .c _ _ (.own _ _ rfl)|exact .int_eq wi|exact .same|exact .c _ _ (.own _ _ rfl)|exact .c _ _ (.ptr _ _ _ _ rfl)|exact .c _ _ (.frz _ _ rfl)|exact .any _),(by exact .old 0 0 _ _ _ rfl rfl (.vars _ _ (by repeat (first|exact .nil|refine .cons _ _ _ _ (.d _) ?_|refine .cons _ _ _ _ (.own _ _ rfl) ?_))) (.old 1 1 _ _ _ rfl rfl (.vars _ _ (by repeat (first|exact .nil|refine .cons _ _ _ _ (.any _) ?_))) (.old 2 2 _ _ _ rfl rfl (.data_eq (zw9 hlt)) (.old 3 3 _ _ _ rfl rfl (.data_eq rfl) (.old 4 4 _ _ _ rfl rfl (.data_eq rfl) .nil))))),(by rfl)⟩
 ·show ARet ..
  exact⟨[(2,0),(3,1)],[(0,.data .thread w.t),(1,.data .res w.log)],[.agg (wdO w 0 1)],.cons _ _ _ _ (.agg _ _ (by repeat (first|exact .nil|refine .cons _ _ _ _ (.d _) ?_|refine .cons _ _ _ _ (.own _ _ rfl) ?_))) .nil,.old 0 2 _ _ _ rfl rfl (.data_eq rfl) (.old 1 3 _ _ _ rfl rfl (.data_eq rfl) .nil),rfl,rfl,rfl⟩
end Go.Abs
namespace Go.Abs
set_option maxRecDepth 8000
structure ColSame (c d:Col):Prop where
 epoch:d.epoch=c.epoch
 phase:d.phase=c.phase
 major:d.major=c.major
theorem ColSame.refl (c:Col):ColSame c c:=⟨rfl,rfl,rfl⟩
theorem ColSame.trans {a b c:Col} (h:ColSame a b) (k:ColSame b c):ColSame a c:=⟨k.epoch.trans h.epoch,k.phase.trans h.phase,k.major.trans h.major⟩
theorem zfo (g:Hp) (c:Col) (a:Int):ColSame c (zE g c a):=by
 unfold zE
 cases decide (atK g c a=1) with
 |false=>exact .refl c
 |true=>cases decide ((c.work.length:Int)<4)<;>exact⟨rfl,rfl,rfl⟩
theorem zld (g:Hp) (c:Col) (t:Thread):ColSame c (ansC g c t):=by
 unfold ansC
 split
 ·exact zfo g c _
 ·exact .refl c
def ThSame (t u:Thread):Prop:=u.live=false\/(u.live=t.live/\u.epoch=t.epoch/\u.stage=t.stage)
structure MuSame (m k:Mu):Prop where
 c:ColSame m.c k.c
 t:ThSame m.t k.t
theorem ThSame.refl (t:Thread):ThSame t t:=.inr ⟨rfl,rfl,rfl⟩
theorem ThSame.trans {a b c:Thread} (h:ThSame a b) (k:ThSame b c):ThSame a c:=by
 rcases k with k|⟨k1,k2,k3⟩
 ·exact .inl k
 ·rcases h with h|⟨h1,h2,h3⟩
  ·exact .inl (k1.trans h)
  ·exact .inr ⟨k1.trans h1,k2.trans h2,k3.trans h3⟩
theorem MuSame.refl (m:Mu):MuSame m m:=⟨.refl _,.refl _⟩
theorem MuSame.trans {a b c:Mu} (h:MuSame a b) (k:MuSame b c):MuSame a c:=⟨h.c.trans k.c,h.t.trans k.t⟩
theorem zci (m:Mu) (e v:Int):MuSame m (endM m e v):=⟨.refl _,.inr ⟨rfl,rfl,rfl⟩⟩
theorem znv (m:Mu) (r a:Int):MuSame m (zca m r a):=by
 unfold zca Thread.setReg
 split
 ·refine⟨.refl _,.inr ?_⟩
  show(ite _ _ _:Thread).live=_/\(ite _ _ _:Thread).epoch=_/\(ite _ _ _:Thread).stage=_
  split
  ·exact⟨rfl,rfl,rfl⟩
  ·split
   ·exact⟨rfl,rfl,rfl⟩
   ·split<;>exact⟨rfl,rfl,rfl⟩
 ·exact .refl m
theorem zjb (m:Mu) (a:Int):MuSame m (zb3 m a):=by
 refine⟨?_,.inr ⟨rfl,rfl,rfl⟩⟩
 show ColSame m.c (if zdZ m.c m.t=true then zE m.h m.c a else m.c)
 split
 ·exact zfo _ _ _
 ·exact .refl _
theorem zv5 (m:Mu):MuSame m (zdA m):=by
 unfold zdA
 split
 ·unfold createM
  split
  ·exact(znv _ _ _).trans (zci _ _ _)
  ·split
   ·exact zci _ _ _
   ·split
    ·exact zci _ _ _
    ·exact⟨.refl _,.inr ⟨rfl,rfl,rfl⟩⟩
 ·split
  ·unfold loadM
   split
   ·exact zci _ _ _
   ·split
    ·exact zci _ _ _
    ·exact(znv _ _ _).trans (zci _ _ _)
  ·split
   ·unfold storeM
    split
    ·unfold zgm
     split
     ·exact zci _ _ _
     ·exact⟨.refl _,.inr ⟨rfl,rfl,rfl⟩⟩
    ·split
     ·exact zjb _ _
     ·split
      ·exact zjb _ _
      ·split
       ·unfold zfY
        split
        ·exact zci _ _ _
        ·exact⟨.refl _,.inr ⟨rfl,rfl,rfl⟩⟩
       ·unfold zf2
        split<;>exact⟨.refl _,.inr ⟨rfl,rfl,rfl⟩⟩
   ·split
    ·exact(znv _ _ _).trans (zci _ _ _)
    ·split
     ·exact zci _ _ _
     ·split
      ·exact zci _ _ _
      ·split
       ·exact⟨.refl _,.inl rfl⟩
       ·exact zci _ _ _
theorem ztn (g:Hp) (c:Col) (t:Thread):MuSame ⟨g,c,t,Res.zero,false⟩ (mutS g c t):=by
 unfold mutS
 split
 ·exact zv5 _
 ·exact .refl _
def AnsT (c:Col) (t:Thread):Prop:=t.live=true->(2<=c.phase->t.epoch=c.epoch)/\(c.phase=3->2<=t.stage)/\(4<=c.phase->t.stage=3)
def AnsW (w:Wd):Prop:=∀t∈w.t,AnsT w.c t
theorem AnsT.col {c d:Col} {t:Thread} (h:AnsT c t) (s:ColSame c d):AnsT d t:=fun hl=>by
 rw[s.phase,s.epoch];exact h hl
theorem AnsT.th {c:Col} {t u:Thread} (h:AnsT c t) (s:ThSame t u):AnsT c u:=fun hl=>by
 rcases s with s|⟨s1,s2,s3⟩
 ·rw[s]at hl;cases hl
 ·rw[s2,s3];exact h (s1▸hl)
theorem AnsT.ans {c:Col} {t:Thread} (h:AnsT c t):AnsT c (ansT c t):=by
 by_cases ha:zaz c t=true
 ·have hl:=(zik ha).1
  obtain⟨h1,h2,h3⟩:=h hl
  rcases zc1 ha with⟨g1,_,e⟩|⟨g1,g2,g3,_,e⟩|⟨g1,g2,g3,g4,g5,_,e⟩
  ·rw[e]
   intro _
   refine⟨fun _=>rfl,fun k=>?_,fun k=>?_⟩
   ·exact absurd (h1 (by omega)) g1
   ·exact absurd (h1 (by omega)) g1
  ·rw[e]
   intro _
   exact⟨fun _=>g1,fun k=>by omega,fun k=>by omega⟩
  ·rw[e]
   split
   ·intro _
    exact⟨fun _=>g1,fun k=>by show(2:Int)<=3;decide,fun k=>rfl⟩
   ·intro _
    exact⟨fun _=>g1,h2,h3⟩
 ·have:ansT c t=t:=by
   have hk:zbi c t=0:=by unfold zbi;rw[if_neg ha]
   unfold ansT
   rw[hk]
   rfl
  rw[this]
  exact h
theorem AnsT.begin {c:Col} {t:Thread} {l:List Thread} (h:∀x∈l,AnsT c x):AnsT c (beginT c t l):=by
 intro _
 unfold beginT
 cases hf:l.find? (·.live) with
 |some x=>
  have hx:=List.mem_of_find?_eq_some hf
  have hl:=List.find?_some hf
  exact h x hx hl
 |none=>
  refine⟨fun k=>?_,fun k=>?_,fun k=>?_⟩
  ·show(if c.phase=0 then 0 else c.epoch)=c.epoch
   rw[if_neg (by omega)]
  ·show 2<=zbQ c.phase
   rw[k];decide
  ·show zbQ c.phase=3
   unfold zbQ
   rw[if_neg (by omega),if_neg (by omega),if_neg (by omega)]
theorem zlm {c:Col} {l:List Thread} (h:zju c l=true) {t:Thread} (ht:t∈l) (hl:t.live=true):zad c t=true:=by
 have:=List.all_eq_true.1 h t ht
 rw[hl]at this
 simpa using this
theorem AnsW.col {w:Wd} (h:AnsW w):AnsW (colW w):=by
 intro t ht hl
 have ht:t∈w.t:=ht
 obtain⟨h1,h2,h3⟩:=h t ht hl
 obtain⟨e1,_,e2,_⟩:=(zfe w.h w.c w.t).col
 show(2<=(zb5 w.h w.c w.t).2.phase->t.epoch=(zb5 w.h w.c w.t).2.epoch)/\((zb5 w.h w.c w.t).2.phase=3->2<=t.stage)/\(4<=(zb5 w.h w.c w.t).2.phase->t.stage=3)
 rw[e1]
 rcases e2 with⟨e,_⟩|⟨g1,g2,ha,e⟩|⟨g1,ha,e⟩|⟨g1,g2,e⟩|⟨g1,e⟩
 ·rw[e];exact⟨h1,h2,h3⟩
 ·have hb:=zlm ha ht hl
  unfold zad at hb
  rw[if_neg (by omega)]at hb
  by_cases hp:w.c.phase=1
  ·rw[if_pos hp]at hb
   have:=of_decide_eq_true hb
   exact⟨fun _=>this,fun k=>by omega,fun k=>by omega⟩
  ·rw[if_neg hp,if_pos (by omega)]at hb
   obtain⟨b1,b2⟩:=of_decide_eq_true hb
   exact⟨fun _=>b1,fun _=>b2,fun k=>by omega⟩
 ·have hb:=zlm ha ht hl
  unfold zad at hb
  rw[if_neg (by omega),if_neg (by omega),if_neg (by omega)]at hb
  obtain⟨b1,b2⟩:=of_decide_eq_true hb
  exact⟨fun _=>b1,fun _=>by omega,fun _=>b2⟩
 ·exact⟨fun _=>h1 (by omega),fun k=>by omega,fun _=>h3 (by omega)⟩
 ·exact⟨fun k=>by omega,fun k=>by omega,fun k=>by omega⟩
theorem zav {l:List Thread} {i:Nat} {x t:Thread} (h:t∈l.set i x):t∈l\/t=x:=List.mem_or_eq_of_mem_set h
theorem zbZ {w:Wd} {n:Int} (h:zeb w n=true):thW w n∈w.t:=by
 have hr:0<=n/\n<(w.t.length:Int):=of_decide_eq_true h
 have hlt:n.toNat<w.t.length:=by omega
 show w.t.getD n.toNat default∈w.t
 rw[List.getD_eq_getElem?_getD,List.getElem?_eq_getElem hlt]
 exact List.getElem_mem hlt
theorem AnsW.step {w:Wd} (h:AnsW w) (n:Int):AnsW (stepW w n):=by
 unfold stepW
 split
 ·exact h
 ·rename_i hi
  have hi:zeb w n=true:=by simpa using hi
  have hm:=zbZ hi
  split
  ·exact h
  ·split
   ·intro t ht
    rcases zav ht with ht|rfl
    ·exact(h t ht).col (zld _ _ _)
    ·exact(h _ hm).ans.col (zld _ _ _)
   ·have hs:=ztn w.h w.c (thW w n)
    intro t ht
    rcases zav ht with ht|rfl
    ·exact(h t ht).col hs.c
    ·exact((h _ hm).th hs.t).col hs.c
theorem AnsW.start {w:Wd} (h:AnsW w) (m:Bool):AnsW (startW w m):=by
 unfold startW
 split
 ·rename_i he
  intro t ht hl
  have e:(zbx w.c m).phase=1:=by unfold zbx;rw[if_pos he]
  show(2<=(zbx w.c m).phase->_)/\((zbx w.c m).phase=3->_)/\(4<=(zbx w.c m).phase->_)
  rw[e]
  exact⟨fun k=>by omega,fun k=>by omega,fun k=>by omega⟩
 ·exact h
theorem AnsW.begin {w:Wd} (h:AnsW w) (n:Int):AnsW (beginW w n):=by
 unfold beginW
 split
 ·exact h
 ·split
  ·exact h
  ·intro t ht
   rcases zav ht with ht|rfl
   ·exact h t ht
   ·exact .begin h
theorem AnsW.do_ {w:Wd} (h:AnsW w) (e:Pair):AnsW (doW w e):=by
 unfold doW
 split
 ·unfold doW1
  split
  ·exact h.step _
  ·split
   ·exact h.col
   ·split
    ·exact h.start _
    ·split
     ·exact h.start _
     ·split
      ·exact h.begin _
      ·exact h
 ·exact h
end Go.Abs
