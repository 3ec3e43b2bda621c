/- Walks and plain laws: WTraceL, WTraceA, WScanA, WScanB, WRefDirty, WRef10, WScanC, WScanD, WWhiteW, WReach22, WTopH. -/
import Derived.Test.YtlankjlnnimdoaaGreatDoorPh
import Derived.Test.YtlankjlnnimdoaaGreatDoorPg
import Derived.Test.YtlankjlnnimdoaaGreatDoorPf
import Derived.Test.YtlankjlnnimdoaaGreatDoorPk
import Derived.Test.YtlankjlnnimdoaaGreatDoorPj
set_option linter.all false
namespace Go.Abs
open Go.Proofs Go.Proofs.YtlankjlnnimdoaaGreatDoor
set_option maxRecDepth 8000
set_option maxHeartbeats 1000000 in
theorem zod (g:Hp) (c:Col) (hl:g.light) (hw:∀x∈g.w,I64 x):Spec X 22 [] [g.tv,c.tv] (Ret [(0,.data .int (zlw g c))] (.c (.own 0))):=by
 refine zGO X_ok Tryz.f22 fun hb hH=>⟨rfl,?_⟩
 show ACall ..
 refine .mk _ (zpM g hl hw) fun H r ⟨eH,er⟩ _ _=>⟨.inl rfl,?_⟩
 subst eH er
 obtain⟨A,hA⟩:∃A,A=zaa g:=⟨_,rfl⟩
 rw[←hA]
 have hAl:A.length<=512:=by rw[hA];exact used_len g
 show ∃n,_
 refine⟨0,ALoop.inv (ι:={i:Nat // i<=A.length}) (fun q=>⟨[(2,.c (.d (.rp (g.enc)))),(3,.c (.d (.rp (c.enc)))),(5,.c (.d (.sl .int (A)))),(6,.c (.own 1)),(7,.int (q.1))],[(1,.data .int ((A.take q.1).filter fun a=>decide (atK g c a=2)))],64⟩) (fun q=>A.length-q.1) ⟨0,Nat.zero_le _⟩ ?_ ?_⟩
 ·exact⟨[],(by repeat' first|exact .nil|refine .cons _ _ _ ?_ ?_|exact .c _ _ (.nilown 1 .int rfl rfl)|exact .same|exact .c _ _ (.own _ _ rfl)|exact .c _ _ (.ptr _ _ _ _ rfl)|exact .c _ _ (.frz _ _ rfl)|exact .any _),(by exact .new 1 .int _ rfl .nil),(by rfl)⟩
 ·rintro⟨i,hi⟩
  show ABr (decide ((i:Int)<(A.length:Int))) _ _
  refine⟨fun h=>?_,fun h=>?_⟩
  ·have hlt:i<A.length:=by simpa using h
   have wi:IntKind.i64.wrap ((i:Int)+1)=((i+1:Nat):Int):=zP (i:=i) (by unfold zA;omega)
   have hst:(A.take (i+1)).filter (fun a=>decide (atK g c a=2))=(A.take i).filter (fun a=>decide (atK g c a=2))++(bif decide (atK g c (A.getD i default)=2) then [A.getD i default] else []):=by
    rw[zdf hlt,List.filter_append]
    show _++List.filter _ [A.getD i default]=_
    rw[List.filter_cons,List.filter_nil]
    cases decide (atK g c (A.getD i default)=2)<;>rfl
   have hfl:((A.take i).filter (fun a=>decide (atK g c a=2))).length<=512:=by
    refine Nat.le_trans (List.length_filter_le _ _) ?_
    rw[List.length_take];omega
   show AOb ((0:Int)<=(i:Int)/\(i:Int)<(A.length:Int)) _
   refine⟨by omega,?_⟩
   show ADCall ..
   refine .mk _ _ (ziY g c (A.getD i default) hl hw) rfl ?_
   show ABr (decide (atK g c (A.getD i default)=2)) _ _
   refine⟨fun h=>?_,fun h=>?_⟩
   ·rw[h]at hst
    show AOb ((0:Int)<=(i:Int)/\(i:Int)<(A.length:Int)) _
    refine⟨by omega,?_⟩
    show AOb (((A.take i).filter (fun a=>decide (atK g c a=2))).length+1<=zi) _
    refine⟨by unfold zi;omega,?_⟩
    show ARound ..
    exact⟨⟨i+1,hlt⟩,(by dsimp only;omega),[(_,1)],(by repeat' first|exact .nil|refine .cons _ _ _ ?_ ?_|exact .c _ _ (.own1 _ _)|exact .int_eq wi|exact .same|exact .c _ _ (.own _ _ rfl)|exact .c _ _ (.ptr _ _ _ _ rfl)|exact .c _ _ (.frz _ _ rfl)|exact .any _),(by exact .old 1 _ _ _ _ rfl rfl (.data_eq hst.symm) .nil),(by rfl)⟩
   ·rw[h]at hst
    show ARound ..
    exact⟨⟨i+1,hlt⟩,(by dsimp only;omega),[(1,1)],(by repeat' first|exact .nil|refine .cons _ _ _ ?_ ?_|exact .int_eq wi|exact .same|exact .c _ _ (.own _ _ rfl)|exact .c _ _ (.ptr _ _ _ _ rfl)|exact .c _ _ (.frz _ _ rfl)|exact .any _),(by exact .old 1 1 _ _ _ rfl rfl (.data_eq ((List.append_nil _).symm.trans hst.symm)) .nil),(by rfl)⟩
  ·have hfin:(A.take i).filter (fun a=>decide (atK g c a=2))=zlw g c:=by
    unfold zlw
    rw[←hA,show i=A.length by simp at h;omega,List.take_length]
   show ARet ..
   exact⟨[(1,0)],[(0,.data .int (zlw g c))],[.c (.own 0)],.cons _ _ _ _ (.c _ _ (.own _ _ rfl)) .nil,.old 0 1 _ _ _ rfl rfl (.data_eq hfin) .nil,rfl,rfl,rfl⟩
theorem TStep.w64 {g k:Hp} {c d:Col} (h:TStep g c k d) (hw:∀x∈g.w,I64 x):∀x∈k.w,I64 x:=by
 cases h
 case last v hv=>exact zwZ (ziU hw c v) c c.at_
 case more v hv=>exact ziU hw c v
 all_goals exact hw
theorem SStep.w64 {g k:Hp} {c d:Col} (h:SStep g c k d) (hw:∀x∈g.w,I64 x):∀x∈k.w,I64 x:=by
 have hmet:∀v,∀x∈(zdm g c v).1.w,I64 x:=fun v=>by
  rcases zcP g c v with⟨_,e⟩|⟨_,e⟩<;>rw[e]
  ·exact ziU hw c v
  ·exact hw
 cases h
 case last v hv=>exact hmet v
 case more v hv=>exact hmet v
 case done=>
  by_cases hm:c.met=true
  ·rw[if_pos hm];exact hw
  ·rw[if_neg hm];exact hw
 all_goals exact hw
end Go.Abs
namespace Go.Abs
set_option maxRecDepth 8000
theorem zwr {w:Wd} {n:Int} (h:zeb w n=true):w.t[n.toNat]'(zeK h).1=thW w n:=by
 unfold thW
 rw[List.getD_eq_getElem?_getD,List.getElem?_eq_getElem (zeK h).1];rfl
theorem InW.do_ {w:Wd} (h:InW w.h w.c w.t) (hA:AnsW w) (hE:EpW w) (e:Pair):InW (doW w e).h (doW w e).c (doW w e).t:=by
 unfold doW
 by_cases hm:zaP w=true
 ·rw[if_pos hm]
  obtain⟨h1,h2,h3,h4⟩:=zaG.1 hm
  obtain⟨m1,m2,m3,m4,m5,m6⟩:=zdy h3
  have hstart:∀m,InW (startW w m).h (startW w m).c (startW w m).t:=fun m=>by
   unfold startW
   split
   ·rename_i he
    have hp:w.c.phase=0:=by
     unfold zaw at he
     rw[if_pos h3]at he
     by_cases q:w.c.phase=0
     ·exact q
     ·rw[if_neg q]at he;cases he
    have:=h.start hE.h hE.t hp m
    show InW w.h (zbx w.c m) w.t
    unfold zbx
    rw[if_pos he]
    exact this
   ·exact h
  unfold doW1
  split
  ·unfold stepW
   split
   ·exact h
   ·rename_i hi
    have hi:zeb w e.snd=true:=by simpa using hi
    have hlt:=(zeK hi).1
    have hat:=zwr hi
    have hT:=h2 _ (zbZ hi)
    have hAT:=hA _ (zbZ hi)
    split
    ·exact h
    ·rename_i hno
     split
     ·rename_i hask
      exact h.ans hlt hat h3 hask hAT
     ·rename_i hask
      have hask:zaz w.c (thW w e.snd)=false:=by simpa using hask
      have hno:zdv w e.snd=false:=by simpa using hno
      have hl:(thW w e.snd).live=true:=by
       unfold zdv at hno
       cases hv:(thW w e.snd).live with
       |true=>rfl
       |false=>rw[hv]at hno;cases hno
      have x:MuC w.h w.c w.t e.snd.toNat (thW w e.snd):=⟨h,hlt,hat,hl,hT,fun p1 p3 he=>by
       obtain⟨r1,r2,r3,r4⟩:=(h.t _ (zbZ hi) hl).r p1 p3 he
       by_cases p:w.c.phase<=2
       ·exact(r1 p).2
       ·by_cases s:(thW w e.snd).stage=3
        ·exact r2 s
        ·have:=hT.2.2.1
         by_cases z:(thW w e.snd).root=0
         ·exact z
         ·have hpc:=r3 (by omega)
          have:zad w.c (thW w e.snd)=false:=by
           unfold zad
           rw[if_neg (by omega),if_neg (by omega),if_neg (by omega)]
           exact decide_eq_false fun q=>s q.2
          rw[zvm hl hT hpc this]at hask
          cases hask⟩
      show InW (mutS w.h w.c (thW w e.snd)).h (mutS w.h w.c (thW w e.snd)).c (w.t.set e.snd.toNat (mutS w.h w.c (thW w e.snd)).t)
      obtain⟨cs,hc⟩:=zjm hi h4
      unfold mutS
      split
      ·rename_i hM
       unfold zg8 at hM
       simp only[Bool.and_eq_true,decide_eq_true_eq]at hM
       exact x.step hc h3 hAT hM.2.2.1
      ·have e1:w.t.set e.snd.toNat (thW w e.snd)=w.t:=by rw[←hat];exact List.set_getElem_self hlt
       rw[e1]
       exact h
  ·split
   ·show InW (zb5 w.h w.c w.t).1 (zb5 w.h w.c w.t).2 w.t
    have s:=zfe w.h w.c w.t
    generalize (zb5 w.h w.c w.t).1=k at *
    generalize (zb5 w.h w.c w.t).2=d at *
    cases s
    case idle=>exact h
    case stay=>exact h
    case next p1 p3 ha=>exact h.next h3 p1 p3 hA ha
    case scan s=>exact h.scan s h3
    case trace s=>exact h.trace s h3 hA
    case sweep s=>exact h.sweep s h3 h4
   ·split
    ·exact hstart _
    ·split
     ·exact hstart _
     ·split
      ·unfold beginW
       split
       ·exact h
       ·rename_i hi
        have hi:zeb w e.snd=true:=by simpa using hi
        split
        ·exact h
        ·rename_i hb
         refine h.begin (zeK hi).1 (zwr hi) ?_ h3
         unfold zdJ at hb
         cases hv:(thW w e.snd).live with
         |false=>rfl
         |true=>rw[hv]at hb;exact absurd rfl hb
      ·exact h
 ·rw[if_neg hm];exact h
theorem InW.made {n:Int} {l:List (List Op)} (h:zeI n l=0):InW (madeW n l).h (madeW n l).c (madeW n l).t:=by
 obtain⟨h1,h2,h3,e⟩:=zib h
 rw[e]
 have no:∀u,headE (newH n) u≠0:=fun u hu=>by
  have hu:u∈zaa (newH n):=zaJ.2 hu
  rw[(zhw h1).2]at hu
  cases hu
 have p6:∀ {p:Int} {P:Prop},1<=p->(Wd.zero.c.phase=p)->P:=fun hp q=>by have:(0:Int)=_:=q;omega
 have p1:∀ {p:Int} {P:Prop},1<=p->(p<=Wd.zero.c.phase)->P:=fun hp q=>by have:_<=(0:Int):=q;omega
 refine⟨⟨fun a f hi=>absurd hi.1 (no a),p6 (by decide),p6 (by decide),p6 (by decide),p6 (by decide),p1 (by decide),p1 (by decide),p1 (by decide),p1 (by decide),p6 (by decide),p6 (by decide),p6 (by decide),p6 (by decide)⟩,
  fun t ht hl=>?_,⟨p1 (by decide),p6 (by decide),fun a f hi=>absurd hi.1 (no a)⟩⟩
 obtain⟨o,_,rfl⟩:=List.mem_map.1 ht
 cases hl
structure AllW (w:Wd):Prop where
 a:AnsW w
 e:EpW w
 i:InW w.h w.c w.t
theorem AllW.do_ {w:Wd} (h:AllW w) (e:Pair):AllW (doW w e):=⟨h.a.do_ e,h.e.do_ e,h.i.do_ h.a h.e e⟩
theorem AllW.run {w:Wd} (h:AllW w) (l:List Pair):AllW (runW w l):=by
 unfold runW
 induction l generalizing w with
 |nil=>exact h
 |cons e r ih=>exact ih (h.do_ e)
def T64 (t:Thread):Prop:=∀v,Hl t v->I64 v
structure W64 (w:Wd):Prop where
 h:∀x∈w.h.w,I64 x
 t:∀t∈w.t,T64 t
theorem z64:I64 0:=by unfold I64;omega
theorem zye {g:Hp} (h:∀x∈g.w,I64 x) (a:Int):I64 (zf g a):=by
 unfold zf at0
 rw[List.getD_eq_getElem?_getD]
 by_cases q:(a-16).toNat<g.w.length
 ·rw[List.getElem?_eq_getElem q];exact h _ (List.getElem_mem q)
 ·rw[List.getElem?_eq_none (by omega)];exact z64
theorem zth:∀(L w:List Int),(∀x∈w,I64 x)->∀x∈zcI w L,I64 x
 |[],_,h=>h
 |a::r,w,h=>zth r _ fun x hx=>(List.mem_or_eq_of_mem_set hx).elim (h x) fun e=>e▸z64
theorem zwC {g:Hp} (h:∀x∈g.w,I64 x) (a:Int) {v:Int} (hv:I64 v):∀x∈(zbn g a v).w,I64 x:=fun x hx=>by
 rcases List.mem_or_eq_of_mem_set hx with q|q
 ·unfold zM at q
  rcases List.mem_append.1 q with q|q
  ·rcases List.mem_append.1 q with q|q
   ·exact h x (List.mem_of_mem_take q)
   ·rw[(List.mem_replicate.1 q).2];exact z64
  ·exact h x (List.mem_of_mem_drop q)
 ·rw[q];exact hv
theorem zxL {g:Hp} (h:∀x∈g.w,I64 x) (k:Int):∀x∈(zN g k).w,I64 x:=by
 cases hf:za6 g.pages 1 with
 |none=>rw[(zaY hf k).1];exact h
 |some i=>rw[(zaZ hf k).1];exact zth _ _ h
theorem zw4 {g:Hp} {C:Lists} {k:Int} (h:∀x∈g.w,I64 x):∀x∈(zW g C k).w,I64 x:=by
 have hr:∀x∈(refG g C k).w,I64 x:=by
  unfold refG
  split
  ·exact zxL h k
  ·exact h
 unfold zW
 split
 ·split
  ·exact hr
  ·exact h
 ·exact h
theorem zxU {g:Hp} {C:Lists} {x:Hd} (h:∀y∈g.w,I64 y) (he:zaC g C x=0):∀y∈(zeL g C x).w,I64 y:=by
 obtain⟨t1,_,_⟩:=ziG he
 obtain⟨_,_,_,_,hp,_,_⟩:=ziQ he
 have hx:x.May:=by
  unfold zcy at hp
  by_cases q:x.May
  ·exact q
  ·rw[if_neg q]at hp;cases hp
 rw[t1]
 refine zwC ?_ _ (znq hx)
 unfold zke
 split
 ·unfold zaO
  split
  ·exact h
  ·exact h
 ·exact zw4 h
theorem hl64 {t u:Thread} (h:T64 t) (hu:∀v,Hl u v->v=0\/Hl t v\/I64 v):T64 u:=fun v hv=>by
 rcases hu v hv with rfl|q|q
 ·exact z64
 ·exact h v q
 ·exact q
structure M64 (m:Mu):Prop where
 h:∀x∈m.h.w,I64 x
 t:T64 m.t
theorem M64.end_ {m:Mu} (h:M64 m) (e v:Int):M64 (endM m e v):=⟨h.h,hl64 (u:=ziA m.t) h.t fun v hv=>(zkr hv).imp id .inl⟩
theorem M64.set {m:Mu} (h:M64 m) (r:Int) {a:Int} (ha:I64 a):M64 (zca m r a):=by
 unfold zca
 split
 ·refine⟨h.h,hl64 (u:=m.t.setReg r a) h.t fun v hv=>?_⟩
  rcases zv2 hv with q|q
  ·exact .inr (.inr (q▸ha))
  ·exact .inr (.inl q)
 ·exact h
theorem M64.shade {m:Mu} (h:M64 m) (a:Int):M64 (zb3 m a):=by
 refine⟨?_,h.t⟩
 show ∀x∈(if zdZ m.c m.t=true then zJ m.h m.c a else m.h).w,I64 x
 split
 ·exact ziU h.h _ _
 ·exact h.h
theorem M64.step {m:Mu} (h:M64 m) {cs:List Lists} (hw:zt m.h (m.t.cache::cs)=true):M64 (zdA m):=by
 have hx:I64 m.t.x:=h.t _ (.inr (.inr (.inr (.inr (.inl rfl)))))
 unfold zdA
 split
 ·unfold createM
  split
  ·exact(h.set _ hx).end_ _ _
  ·split
   ·exact h.end_ _ _
   ·split
    ·exact h.end_ _ _
    ·rename_i he
     have he:=Classical.not_not.1 he
     have tk:=(zgU hw he).2
     refine⟨zxU h.h he,hl64 h.t fun v hv=>?_⟩
     rcases hv with q|q|q|q|q|q
     ·exact .inr (.inl (.inl q))
     ·exact .inr (.inl (.inr (.inl q)))
     ·exact .inr (.inl (.inr (.inr (.inl q))))
     ·exact .inr (.inl (.inr (.inr (.inr (.inl q)))))
     ·refine .inr (.inr ?_)
      rw[show v=takeA m.h m.t.cache (zau m m.op.b) from q]
      obtain⟨_,z1,z2,z3⟩:=zaQ tk.self.1
      obtain⟨_,_,_,_,_,y⟩:=zm (zF (zG tk.self.1).1)
      obtain⟨_,_,s3,_⟩:=zm (zF (zG tk.self.1).1)
      unfold I64
      omega
     ·exact .inr (.inl (.inr (.inr (.inr (.inr (.inr q))))))
 ·split
  ·unfold loadM
   split
   ·exact h.end_ _ _
   ·split
    ·exact h.end_ _ _
    ·exact(h.set _ (zye h.h _)).end_ _ _
  ·split
   ·unfold storeM
    split
    ·unfold zgm
     split
     ·exact h.end_ _ _
     ·refine⟨h.h,hl64 h.t fun v hv=>?_⟩
      rcases hv with q|q|q|q|q|q
      ·exact .inr (.inl (.inl q))
      ·exact .inr (.inl (.inr (.inl q)))
      ·exact .inr (.inl (.inr (.inr (.inl q))))
      ·exact .inr (.inl (.inr (.inr (.inr (.inl q)))))
      ·exact .inr (.inr (by rw[show v=zf m.h _ from q];exact zye h.h _))
      ·rw[show v=getA m.t m.op.c from q]
       unfold getA
       split
       ·exact .inr (.inl (zi2 _ _))
       ·exact .inl rfl
    ·split
     ·exact h.shade _
     ·split
      ·exact h.shade _
      ·split
       ·unfold zfY
        split
        ·exact h.end_ _ _
        ·refine⟨fun x hx=>?_,h.t⟩
         rcases List.mem_or_eq_of_mem_set hx with q|q
         ·exact h.h x q
         ·rw[q];exact h.t _ (.inr (.inr (.inr (.inr (.inr rfl)))))
       ·unfold zf2
        have hd:M64 (zka m):=⟨h.h,(h.end_ 0 0).t⟩
        split
        ·refine⟨?_,hd.t⟩
         show ∀x∈(zaN m.h (zcZ m m.op.a m.op.b)).w,I64 x
         unfold zaN
         cases decide (za7 m.h (zcZ m m.op.a m.op.b)=0) with
         |true=>exact h.h
         |false=>intro x hx;cases hx
        ·exact hd
   ·split
    ·exact(h.set _ z64).end_ _ _
    ·split
     ·exact h.end_ _ _
     ·split
      ·exact h.end_ _ _
      ·split
       ·refine⟨fun x hx=>h.h x ?_,fun v hv=>?_⟩
        ·have:=(zey hw).2.2
         rw[←this];exact hx
        ·rcases hv with q|q|q|q|q|q<;>(rw[q];exact z64)
       ·exact h.end_ _ _
theorem zyx {g k:Hp} {c d:Col} {l:List Thread} (s:CStep g c l k d) (h:∀x∈g.w,I64 x):∀x∈k.w,I64 x:=by
 cases s
 case scan s=>exact s.w64 h
 case trace s=>exact s.w64 h
 case sweep s=>
  cases s
  case old p=>exact zu9 h _ (znq p.xmay)
  case free h0=>
   unfold zfP
   rw[if_pos h0]
   have hf:∀x∈zbc g (zO g.pages c.seek),I64 x:=fun x hx=>by
    unfold zbc zM at hx
    rcases List.mem_append.1 hx with q|q
    ·rcases List.mem_append.1 q with q|q
     ·exact h x (List.mem_of_mem_take q)
     ·rw[(List.mem_replicate.1 q).2];exact z64
    ·exact h x (List.mem_of_mem_drop q)
   split
   ·exact hf
   ·unfold zdq
    split
    ·exact hf
    ·exact hf
  all_goals exact h
 all_goals exact h
theorem W64.do_ {w:Wd} (h:W64 w) (e:Pair):W64 (doW w e):=by
 unfold doW
 by_cases hm:zaP w=true
 ·rw[if_pos hm]
  obtain⟨h1,h2,h3,h4⟩:=zaG.1 hm
  have hset:∀ {k:Hp} {d:Col} {i:Nat} {u:Thread} {lg:List Res},(∀x∈k.w,I64 x)->T64 u->W64 ⟨k,d,w.t.set i u,lg⟩:=fun hk hu=>⟨hk,fun t ht=>by
   rcases zav ht with q|rfl
   ·exact h.t t q
   ·exact hu⟩
  unfold doW1
  split
  ·unfold stepW
   split
   ·exact h
   ·rename_i hi
    have hi:zeb w e.snd=true:=by simpa using hi
    have hT:=h.t _ (zbZ hi)
    split
    ·exact h
    ·split
     ·refine hset ?_ ?_
      ·unfold ansG
       split
       ·exact ziU h.h _ _
       ·exact h.h
      ·have hs:=zm4 w.c (thW w e.snd)
       intro v hv
       refine hT v ?_
       unfold Hl at hv ⊢
       rw[hs.r0,hs.r1,hs.r2,hs.r3,hs.x,hs.y]at hv
       exact hv
     ·obtain⟨cs,hc⟩:=zjm hi h4
      have hM:M64 (mutS w.h w.c (thW w e.snd)):=by
       have h0:M64 ⟨w.h,w.c,thW w e.snd,Res.zero,false⟩:=⟨h.h,hT⟩
       unfold mutS
       split
       ·exact h0.step hc
       ·exact h0
      exact hset hM.h hM.t
  ·split
   ·exact⟨zyx (zfe w.h w.c w.t) h.h,h.t⟩
   ·split
    ·unfold startW;split
     ·exact⟨h.h,h.t⟩
     ·exact h
    ·split
     ·unfold startW;split
      ·exact⟨h.h,h.t⟩
      ·exact h
     ·split
      ·unfold beginW
       split
       ·exact h
       ·rename_i hi
        have hi:zeb w e.snd=true:=by simpa using hi
        split
        ·exact h
        ·refine hset h.h ?_
         unfold beginT
         split
         ·rename_i y hy
          have hy:=h.t y (List.mem_of_find?_eq_some hy)
          intro v hv
          rcases hv with q|q|q|q|q|q
          ·rw[q];exact hy _ (.inl rfl)
          all_goals (rw[q];exact z64)
         ·intro v hv
          rcases hv with q|q|q|q|q|q<;>(rw[q];exact z64)
      ·exact h
 ·rw[if_neg hm];exact h
theorem W64.run {w:Wd} (h:W64 w) (l:List Pair):W64 (runW w l):=by
 unfold runW
 induction l generalizing w with
 |nil=>exact h
 |cons e r ih=>exact ih (h.do_ e)
theorem W64.made {n:Int} {l:List (List Op)} (h:zeI n l=0):W64 (madeW n l):=by
 obtain⟨h1,h2,h3,e⟩:=zib h
 rw[e]
 refine⟨fun x hx=>?_,fun t ht=>?_⟩
 ·have hx:x∈(newH n).w:=hx
  rw[zpg h1]at hx
  rw[(List.mem_replicate.1 (show x∈List.replicate _ (0:Int) from hx)).2];exact z64
 ·obtain⟨o,_,rfl⟩:=List.mem_map.1 ht
  intro v hv
  rcases hv with q|q|q|q|q|q<;>(rw[q];exact z64)
open Go.Proofs Go.Proofs.YtlankjlnnimdoaaGreatDoor
set_option maxRecDepth 60000
set_option maxHeartbeats 4000000
theorem zrQ (l:List Int) (a:Int):Spec X 83 [] [.c (.d (.sl .int l)),.int a] (Ret [] (.bo (l.contains a))):=by
 refine zGO X_ok Tryz.f83 fun hb hH=>⟨rfl,?_⟩
 have hll:l.length<=zA:=(hb (.c (.d (.sl .int l))) (by simp)).1
 unfold zA at hll
 show ∃n,_
 refine⟨0,ALoop.inv (ι:={i:Nat // i<=l.length/\(l.take i).contains a=false}) (fun q=>⟨[(0,.c (.d (.sl .int (l)))),(1,.int (a)),(5,.int (q.1))],[],32⟩) (fun q=>l.length-q.1) ⟨0,Nat.zero_le _,rfl⟩ ?_ ?_⟩
 ·exact⟨[],(by repeat' first|exact .nil|refine .cons _ _ _ ?_ ?_|exact .same|exact .c _ _ (.own _ _ rfl)|exact .c _ _ (.ptr _ _ _ _ rfl)|exact .c _ _ (.frz _ _ rfl)|exact .any _),(by exact .nil),(by rfl)⟩
 rintro⟨i,hi,hn⟩
 have hi:i<=l.length:=hi
 show ABr (decide ((i:Int)<(l.length:Int))) _ _
 refine⟨fun h=>?_,fun h=>?_⟩
 ·have hlt:i<l.length:=by simpa using h
  have wi:IntKind.i64.wrap ((i:Int)+1)=((i+1:Nat):Int):=zP (i:=i) (by unfold zA;omega)
  show AOb ..
  refine⟨by exact⟨Int.natCast_nonneg _,Int.ofNat_lt.2 hlt⟩,?_⟩
  show ABr (l.getD i default==a) _ _
  have hg:l.getD i default=l[i]:=by rw[List.getD_eq_getElem?_getD,List.getElem?_eq_getElem hlt];rfl
  by_cases e:l.getD i default=a
  ·rw[show(l.getD i default==a)=true by simpa using e]
   refine zYE (by decide) ?_
   show ARet ..
   refine zo (x:=true) ?_ ⟨rfl,rfl⟩
   symm
   rw[List.contains_iff_mem]
   rw[hg]at e
   rw[←e]
   exact List.getElem_mem hlt
  ·rw[show(l.getD i default==a)=false by simpa using e]
   refine zNO (by decide) ?_
   have hn' : (l.take (i+1)).contains a=false:=by
    rw[List.take_add_one,List.getElem?_eq_getElem hlt]
    rw[hg]at e
    rw[Bool.eq_false_iff]
    intro q
    rw[List.contains_iff_mem]at q
    rcases List.mem_append.1 q with q|q
    ·rw[Bool.eq_false_iff]at hn
     exact hn (List.contains_iff_mem.2 q)
    ·have:a=l[i]:=by simpa using q
     exact e this.symm
   show ARound ..
   exact⟨⟨i+1,hlt,hn'⟩,(by dsimp only;omega),[],(by repeat' first|exact .nil|refine .cons _ _ _ ?_ ?_|exact .int_eq wi|exact .same|exact .c _ _ (.own _ _ rfl)|exact .c _ _ (.ptr _ _ _ _ rfl)|exact .c _ _ (.frz _ _ rfl)|exact .any _),(by exact .nil),(by rfl)⟩
 ·have hie:i=l.length:=by simp at h;omega
  have hf:l.contains a=false:=by
   rw[hie,List.take_length]at hn;exact hn
  show ARet ..
  refine zo (x:=false) ?_ ⟨rfl,rfl⟩
  rw[hf]
def zeT (l:List Int) (a:Int):Nat->Nat
 |0=>0
 |n+1=>if at0 l n>a then zeT l a n else n+1
def zf8 (l:List Int) (a:Int):List Int:=if a=0\/l.contains a=true then l else l.take (zeT l a l.length)++[a]++l.drop (zeT l a l.length)
theorem zvM {l:List Int} {a x:Int}:x∈zf8 l a->x∈l\/(x=a/\a≠0):=by
 unfold zf8
 split
 ·exact .inl
 ·rename_i h
  intro hx
  rcases List.mem_append.1 hx with q|q
  ·rcases List.mem_append.1 q with q|q
   ·exact .inl (List.mem_of_mem_take q)
   ·exact .inr ⟨List.mem_singleton.1 q,fun e=>h (.inl e)⟩
  ·exact .inl (List.mem_of_mem_drop q)
theorem zv7 (l:List Int) (a:Int):l.length<=(zf8 l a).length/\(zf8 l a).length<=l.length+1:=by
 unfold zf8
 split
 ·omega
 ·rw[List.length_append,List.length_append,List.length_take,List.length_drop]
  simp
  omega
theorem zrL {l:List Int} {a:Int} (h:l.Nodup):(zf8 l a).Nodup:=by
 unfold zf8
 split
 ·exact h
 ·rename_i hn
  have hp:(l.take (zeT l a l.length)++[a]++l.drop (zeT l a l.length)).Perm (a::l):=by
   rw[List.append_assoc]
   refine(List.perm_append_comm_assoc _ _ _).trans ?_
   rw[List.take_append_drop]
   exact .refl _
  rw[hp.nodup_iff,List.nodup_cons]
  exact⟨fun q=>hn (.inr (List.contains_iff_mem.2 q)),h⟩
theorem zl0 (l:List Int) (a:Int) (hl:l.length<=1000):Spec X 41 [] [.c (.d (.sl .int l)),.int a] (Ret [] (.c (.d (.sl .int (zf8 l a))))):=by
 refine zGO X_ok Tryz.f41 fun hb hH=>⟨rfl,?_⟩
 by_cases h0:a=0
 ·subst h0
  have hp:zf8 l 0=l:=by unfold zf8;rw[if_pos (.inl rfl)]
  rw[hp]
  show AIf ..
  refine⟨fun h=>absurd h.1 (by decide),fun _=>?_⟩
  show AOb ..
  refine⟨by decide,?_⟩
  show ABr true _ _
  refine zYE (by decide) ?_
  show ARet ..
  exact zg rfl ⟨rfl,rfl⟩
 ·show AIf ((a==0)=false/\True) _ _
  refine⟨fun _=>?_,fun h=>absurd ⟨by simpa using h0,trivial⟩ h⟩
  show ACall ..
  refine za (zrQ l a) rfl ?_
  show ABr (l.contains a) _ _
  cases hc:l.contains a with
  |true=>
   refine zYE (by decide) ?_
   have hp:zf8 l a=l:=by unfold zf8;rw[if_pos (.inr hc)]
   rw[hp]
   show ARet ..
   exact zg rfl ⟨rfl,rfl⟩
  |false=>
   refine zNO (by decide) ?_
   have hll:l.length<=zA:=(hb (.c (.d (.sl .int l))) (by simp)).1
   unfold zA at hll
   show ∃n,_
   refine⟨0,ALoop.inv (ι:={i:Nat // i<=l.length/\zeT l a i=zeT l a l.length}) (fun q=>⟨[(0,.c (.d (.sl .int (l)))),(1,.int (a)),(5,.int (q.1))],[],32⟩) (fun q=>q.1) ⟨l.length,Nat.le_refl _,rfl⟩ ?_ ?_⟩
   ·exact⟨[],(by repeat' first|exact .nil|refine .cons _ _ _ ?_ ?_|exact .same|exact .c _ _ (.own _ _ rfl)|exact .c _ _ (.ptr _ _ _ _ rfl)|exact .c _ _ (.frz _ _ rfl)|exact .any _),(by exact .nil),(by rfl)⟩
   rintro⟨i,hi,hn⟩
   have hi:i<=l.length:=hi
   have hn:zeT l a i=zeT l a l.length:=hn
   show AOb (decide ((i:Int)>0)=true/\True->(0:Int)<=IntKind.i64.wrap ((i:Int)-1)/\IntKind.i64.wrap ((i:Int)-1)<(l.length:Int)) _
   refine⟨fun h=>by have:=of_decide_eq_true h.1;rw[ziV (i:=i) (by unfold zA;omega) (by omega)];omega,?_⟩
   show ABr (bif decide ((i:Int)>0) then decide (l.getD (IntKind.i64.wrap ((i:Int)-1)).toNat default>a) else false) _ _
   obtain⟨B,hB⟩:∃B,B=(bif decide ((i:Int)>0) then decide (l.getD (IntKind.i64.wrap ((i:Int)-1)).toNat default>a) else false):=⟨_,rfl⟩
   rw[←hB]
   refine⟨fun h=>?_,fun h=>?_⟩
   ·rw[h]at hB
    have hi0:0<i:=by
     by_cases q:(i:Int)>0
     ·omega
     ·rw[decide_eq_false q]at hB;cases hB
    rw[decide_eq_true (show(i:Int)>0 by omega)]at hB
    have wi:=ziV (i:=i) (by unfold zA;omega) hi0
    have hg:=of_decide_eq_true hB.symm
    rw[wi]at hg
    have hst:zeT l a i=zeT l a (i-1):=by
     obtain⟨n,rfl⟩:∃n,i=n+1:=⟨i-1,by omega⟩
     exact if_pos hg
    show ARound ..
    exact⟨⟨i-1,by omega,hst.symm.trans hn⟩,(by dsimp only;omega),[],(by repeat' first|exact .nil|refine .cons _ _ _ ?_ ?_|exact .int_eq wi|exact .same|exact .c _ _ (.own _ _ rfl)|exact .c _ _ (.ptr _ _ _ _ rfl)|exact .c _ _ (.frz _ _ rfl)|exact .any _),(by exact .nil),(by rfl)⟩
   ·rw[h]at hB
    have hk:zeT l a i=i:=by
     by_cases q:i=0
     ·subst q;rfl
     ·rw[decide_eq_true (show(i:Int)>0 by omega)]at hB
      have hg:=of_decide_eq_false hB.symm
      rw[ziV (i:=i) (by unfold zA;omega) (by omega)]at hg
      obtain⟨n,rfl⟩:∃n,i=n+1:=⟨i-1,by omega⟩
      show(if at0 l n>a then zeT l a n else n+1)=n+1
      exact if_neg hg
    have hp:zf8 l a=l.take i++[a]++l.drop i:=by
     unfold zf8
     rw[if_neg (fun q=>q.elim h0 fun q=>by rw[hc]at q;cases q),←hn,hk]
    rw[hp]
    show AOb ..
    refine⟨by exact⟨Int.natCast_nonneg _,Int.ofNat_le.2 hi⟩,?_⟩
    show AOb ..
    refine⟨by show(l.take i).length<=zi;rw[List.length_take];unfold zi;omega,?_⟩
    show AOb ..
    refine⟨by show(l.take i).length+1<=zi;rw[List.length_take];unfold zi;omega,?_⟩
    show AOb ..
    refine⟨by exact⟨Int.natCast_nonneg _,Int.ofNat_le.2 hi⟩,?_⟩
    show AOb ..
    refine⟨by show(l.take i++[a]).length+(l.drop i).length<=zi;rw[List.length_append,List.length_take,List.length_drop];unfold zi;simp;omega,?_⟩
    show ARet ..
    exact⟨[],[],[.c (.d (.sl .int (l.take i++[a]++l.drop i:List Int)))],.cons _ _ _ _ (.c _ _ (.frz _ _ rfl)) .nil,.nil,rfl,rfl,rfl⟩
theorem zxG {t:Thread} {v:Int} (h:v∈t.acc 6):Hl t v/\v≠0:=by
 unfold Thread.acc at h
 rw[List.mem_filter]at h
 refine⟨?_,by simpa using h.2⟩
 have h1:=List.mem_of_mem_take h.1
 unfold Thread.six at h1
 unfold Hl
 simpa using h1
structure Gl (g:Hp) (P:Int->Prop) (L:List Int):Prop where
 n:L.Nodup
 p:∀v∈L,P v
theorem Gl.put {g:Hp} {P:Int->Prop} {L:List Int} (h:Gl g P L) {a:Int} (ha:a=0\/P a):Gl g P (zf8 L a):=
 ⟨zrL h.n,fun v hv=>(zvM hv).elim (h.p v) fun q=>q.1▸ha.elim (fun z=>absurd z q.2) id⟩
theorem Gl.len {g:Hp} {P:Int->Prop} {L:List Int} (h:Gl g P L) (hm:zw g []=true) (hP:∀v,P v->headE g v=0):L.length<=512:=by
 refine Nat.le_trans (ze9 h.n (m:=zaa g) fun x hx=>zaJ.2 (hP x (h.p x hx))) ?_
 rw[zb9 hm]
 refine Nat.le_trans (List.length_filter_le _ _) ?_
 unfold cellStarts
 rw[List.length_map]
 exact zb0 _
theorem znp (w:Wd) (P:Int->Prop) (hm:zaP w=true) (h64:∀x∈w.h.w,I64 x) (hR:∀t∈w.t,t.live=true->∀v,Hl t v->v=0\/P v) (hF:∀a f,P a->InF w.h a f->fv w.h a f=0\/P (fv w.h a f)) (hP:∀v,P v->headE w.h v=0) :
  Spec X 20 [] [w.tv] (fun H r=>∃L:List Int,H=[]/\r = .c (.d (.sl .int L))/\∀v∈L,P v):=by
 refine zGO X_ok Tryz.f20 fun hb hH=>⟨rfl,?_⟩
 have h4:=(zaG.1 hm).1
 have hm0:=ze5 (zaG.1 hm).2.2.2
 have hlt':=zhT hm
 have hgl:∀ {L},Gl w.h P L->L.length<=512:=fun h=>h.len hm0 hP
 show ∃n,_
 refine⟨0,ALoop.inv (ι:={q:Nat×List Int // q.1<=w.t.length/\Gl w.h P q.2}) (fun q=>⟨[(1,.c (.d (.rp (w.cells)))),(3,.c (.d (.sl .int (q.1.2)))),(4,.int (q.1.1))],[],32⟩) (fun q=>w.t.length-q.1.1) ⟨(0,[]),Nat.zero_le _,⟨List.nodup_nil,fun v hv=>by cases hv⟩⟩ ?_ ?_⟩
 ·exact⟨[],(by repeat' first|exact .nil|refine .cons _ _ _ ?_ ?_|exact .c _ _ (.nilsl _)|exact .same|exact .c _ _ (.own _ _ rfl)|exact .c _ _ (.ptr _ _ _ _ rfl)|exact .c _ _ (.frz _ _ rfl)|exact .any _),(by exact .nil),(by rfl)⟩
 rintro⟨⟨i,L⟩,hi,hL⟩
 have hi:i<=w.t.length:=hi
 have hL:Gl w.h P L:=hL
 show ABr (decide ((i:Int)<(w.t.length:Int))) _ _
 refine⟨fun h=>?_,fun h=>?_⟩
 ·have hlt:i<w.t.length:=by simpa using h
  have wi:IntKind.i64.wrap ((i:Int)+1)=((i+1:Nat):Int):=zP (i:=i) (by unfold zA;omega)
  have hmem:=zcg (l:=w.t) hlt
  show AOb ..
  refine⟨by exact⟨Int.natCast_nonneg _,Int.ofNat_lt.2 hlt⟩,?_⟩
  show ACall ..
  refine za (zmf (w.t.getD i default)) rfl ?_
  obtain⟨A,hA⟩:∃A,A=(w.t.getD i default).acc 6:=⟨_,rfl⟩
  have hAl:A.length<=6:=by rw[hA];exact Thread.acc_len _ _
  rw[←hA]
  show ∃n,_
  refine⟨0,ALoop.inv (ι:={q:Nat×List Int // q.1<=A.length/\Gl w.h P q.2}) (fun q=>⟨[(1,.c (.d (.rp (w.cells)))),(3,.c (.d (.sl .int (q.1.2)))),(4,.int ((i:Int))),(5,.c (.d (.sl .int (A)))),(6,.int (q.1.1))],[],32⟩) (fun q=>A.length-q.1.1) ⟨(0,L),Nat.zero_le _,hL⟩ ?_ ?_⟩
  ·exact⟨[],(by repeat' first|exact .nil|refine .cons _ _ _ ?_ ?_|exact .same|exact .c _ _ (.own _ _ rfl)|exact .c _ _ (.ptr _ _ _ _ rfl)|exact .c _ _ (.frz _ _ rfl)|exact .any _),(by exact .nil),(by rfl)⟩
  rintro⟨⟨k,M⟩,hk,hM⟩
  have hk:k<=A.length:=hk
  have hM:Gl w.h P M:=hM
  show AOb (decide ((k:Int)<(A.length:Int))=true/\True->(0:Int)<=(i:Int)/\(i:Int)<(w.t.length:Int)) _
  refine⟨fun _=>⟨Int.natCast_nonneg _,Int.ofNat_lt.2 hlt⟩,?_⟩
  show ABr (bif decide ((k:Int)<(A.length:Int)) then (w.t.getD i default).live else false) _ _
  obtain⟨B,hB⟩:∃B,B=(bif decide ((k:Int)<(A.length:Int)) then (w.t.getD i default).live else false):=⟨_,rfl⟩
  rw[←hB]
  refine⟨fun h=>?_,fun h=>?_⟩
  ·rw[h]at hB
   have hkl:k<A.length:=by
    by_cases q:(k:Int)<(A.length:Int)
    ·omega
    ·rw[decide_eq_false q]at hB;cases hB
   rw[decide_eq_true (show(k:Int)<(A.length:Int) by omega)]at hB
   have wk:IntKind.i64.wrap ((k:Int)+1)=((k+1:Nat):Int):=zP (i:=k) (by unfold zA;omega)
   have hv:=zxG (t:=w.t.getD i default) (v:=A.getD k default) (hA▸zcg hkl)
   have hg:=hR _ hmem hB.symm _ hv.1
   show AOb ..
   refine⟨by exact⟨Int.natCast_nonneg _,Int.ofNat_lt.2 hkl⟩,?_⟩
   have hML:=hgl hM
   show ACall ..
   refine za (zl0 M (A.getD k default) (by omega)) rfl ?_
   show ARound ..
   exact⟨⟨(k+1,zf8 M (A.getD k default)),hkl,hM.put hg⟩,(by dsimp only;omega),[],(by repeat' first|exact .nil|refine .cons _ _ _ ?_ ?_|exact .int_eq wk|exact .same|exact .c _ _ (.own _ _ rfl)|exact .c _ _ (.ptr _ _ _ _ rfl)|exact .c _ _ (.frz _ _ rfl)|exact .any _),(by exact .nil),(by rfl)⟩
  ·have hM':=hM
   show ARound ..
   exact⟨⟨(i+1,M),hlt,hM'⟩,(by dsimp only;omega),[],(by repeat' first|exact .nil|refine .cons _ _ _ ?_ ?_|exact .int_eq wi|exact .same|exact .c _ _ (.own _ _ rfl)|exact .c _ _ (.ptr _ _ _ _ rfl)|exact .c _ _ (.frz _ _ rfl)|exact .any _),(by exact .nil),(by rfl)⟩
 ·show ∃n,_
  refine⟨0,ALoop.inv (ι:={q:List Int // Gl w.h P q}) (fun q=>⟨[(1,.c (.d (.rp (w.cells)))),(3,.c (.d (.sl .int (q.1))))],[],32⟩) (fun q=>600-q.1.length) ⟨L,hL⟩ ?_ ?_⟩
  ·exact⟨[],(by repeat' first|exact .nil|refine .cons _ _ _ ?_ ?_|exact .same|exact .c _ _ (.own _ _ rfl)|exact .c _ _ (.ptr _ _ _ _ rfl)|exact .c _ _ (.frz _ _ rfl)|exact .any _),(by exact .nil),(by rfl)⟩
  rintro⟨M,hM⟩
  have hML:=hgl hM
  show ∃n,_
  refine⟨0,ALoop.inv (ι:={q:Nat×List Int // q.1<=M.length/\Gl w.h P q.2/\M.length<=q.2.length}) (fun q=>⟨[(1,.c (.d (.rp (w.cells)))),(3,.c (.d (.sl .int (q.1.2)))),(7,.int ((M.length:Int))),(8,.c (.d (.sl .int (M)))),(9,.int (q.1.1))],[],32⟩) (fun q=>M.length-q.1.1) ⟨(0,M),Nat.zero_le _,hM,Nat.le_refl _⟩ ?_ ?_⟩
  ·exact⟨[],(by repeat' first|exact .nil|refine .cons _ _ _ ?_ ?_|exact .same|exact .c _ _ (.own _ _ rfl)|exact .c _ _ (.ptr _ _ _ _ rfl)|exact .c _ _ (.frz _ _ rfl)|exact .any _),(by exact .nil),(by rfl)⟩
  rintro⟨⟨j,N⟩,hj,hN,hMN⟩
  have hj:j<=M.length:=hj
  have hN:Gl w.h P N:=hN
  have hMN:M.length<=N.length:=hMN
  have hNL:=hgl hN
  show ABr (decide ((j:Int)<(M.length:Int))) _ _
  refine⟨fun h=>?_,fun h=>?_⟩
  ·have hjl:j<M.length:=by simpa using h
   have wj:IntKind.i64.wrap ((j:Int)+1)=((j+1:Nat):Int):=zP (i:=j) (by unfold zA;omega)
   have hPa:=hM.p _ (zcg hjl)
   have hEa:=hP _ hPa
   show AOb ..
   refine⟨by exact⟨Int.natCast_nonneg _,Int.ofNat_lt.2 hjl⟩,?_⟩
   show ADCall ..
   refine .mk _ _ (zj5 w.h (M.getD j default) hlt' h64) rfl ?_
   obtain⟨z1,z2,z3,z4⟩:=zaQ hEa
   have hfit:=(zar hEa).2.2.1
   have hn1:=(zar hEa).2.1
   obtain⟨_,_,s3,_,_,s6⟩:=zm (zF hm0)
   show ∃n,_
   refine⟨0,ALoop.inv (ι:={q:Nat×List Int // 1<=q.1/\(q.1:Int)<=(headH w.h (M.getD j default)).n+1/\Gl w.h P q.2/\M.length<=q.2.length}) (fun q=>⟨[(1,.c (.d (.rp (w.cells)))),(3,.c (.d (.sl .int (q.1.2)))),(7,.int ((M.length:Int))),(8,.c (.d (.sl .int (M)))),(9,.int ((j:Int))),(10,.c (.d (.rp ((headH w.h (M.getD j default)).enc)))),(11,.int ((headE w.h (M.getD j default)))),(12,.int (q.1.1))],[],32⟩) (fun q=>((headH w.h (M.getD j default)).n+2-q.1.1).toNat) ⟨(1,N),Nat.le_refl _,by show(1:Int)<=_;omega,hN,hMN⟩ ?_ ?_⟩
   ·exact⟨[],(by repeat' first|exact .nil|refine .cons _ _ _ ?_ ?_|exact .same|exact .c _ _ (.own _ _ rfl)|exact .c _ _ (.ptr _ _ _ _ rfl)|exact .c _ _ (.frz _ _ rfl)|exact .any _),(by exact .nil),(by rfl)⟩
   rintro⟨⟨f,N2⟩,hf1,hfn,hN2,hMN2⟩
   have hf1:1<=f:=hf1
   have hfn:(f:Int)<=(headH w.h (M.getD j default)).n+1:=hfn
   have hN2:Gl w.h P N2:=hN2
   have hMN2:M.length<=N2.length:=hMN2
   have hN2L:=hgl hN2
   obtain⟨B,hB⟩:∃B,B=(bif decide ((f:Int)<=(headH w.h (M.getD j default)).n) then headE w.h (M.getD j default)==0 else false):=⟨_,rfl⟩
   show ABr (bif decide ((f:Int)<=(headH w.h (M.getD j default)).n) then headE w.h (M.getD j default)==0 else false) _ _
   rw[←hB]
   refine⟨fun h=>?_,fun h=>?_⟩
   ·rw[h]at hB
    have hfl:(f:Int)<=(headH w.h (M.getD j default)).n:=by
     by_cases q:(f:Int)<=(headH w.h (M.getD j default)).n
     ·exact q
     ·rw[decide_eq_false q]at hB;cases hB
    have wf:IntKind.i64.wrap ((f:Int)+1)=((f+1:Nat):Int):=zP (i:=f) (by unfold zA;omega)
    have w1:IntKind.i64.wrap (M.getD j default+(f:Int))=M.getD j default+(f:Int):=zu (by omega) (by omega)
    have w2:IntKind.i64.wrap (M.getD j default+(f:Int)-16)=M.getD j default+(f:Int)-16:=zu (by omega) (by omega)
    have hi' : InF w.h (M.getD j default) ((f:Int)-1):=⟨hEa,by omega,by omega⟩
    have hg:=hF _ _ hPa hi'
    have hfv:fv w.h (M.getD j default) ((f:Int)-1)=at0 w.h.w (IntKind.i64.wrap (IntKind.i64.wrap (M.getD j default+(f:Int))-16)).toNat:=by
     rw[w1,w2]
     show at0 w.h.w (M.getD j default+1+((f:Int)-1)-16).toNat=_
     congr 1
     omega
    rw[hfv]at hg
    show AOb ..
    refine⟨by exact⟨Int.natCast_nonneg _,Int.ofNat_lt.2 hjl⟩,?_⟩
    show AOb ((0:Int)<=IntKind.i64.wrap (IntKind.i64.wrap (M.getD j default+(f:Int))-16)/\IntKind.i64.wrap (IntKind.i64.wrap (M.getD j default+(f:Int))-16)<(w.h.w.length:Int)) _
    refine⟨by rw[w1,w2];omega,?_⟩
    show ADCall ..
    refine .mk _ _ (zl0 N2 (at0 w.h.w (IntKind.i64.wrap (IntKind.i64.wrap (M.getD j default+(f:Int))-16)).toNat) (by omega)) rfl ?_
    have hlp:=zv7 N2 (at0 w.h.w (IntKind.i64.wrap (IntKind.i64.wrap (M.getD j default+(f:Int))-16)).toNat)
    show ARound ..
    exact⟨⟨(f+1,zf8 N2 (at0 w.h.w (IntKind.i64.wrap (IntKind.i64.wrap (M.getD j default+(f:Int))-16)).toNat)),by show 1<=f+1;omega,by show((f+1:Nat):Int)<=_;omega,hN2.put hg,Nat.le_trans hMN2 hlp.1⟩,(by dsimp only;omega),[],(by repeat' first|exact .nil|refine .cons _ _ _ ?_ ?_|exact .int_eq wf|exact .same|exact .c _ _ (.own _ _ rfl)|exact .c _ _ (.ptr _ _ _ _ rfl)|exact .c _ _ (.frz _ _ rfl)|exact .any _),(by exact .nil),(by rfl)⟩
   ·show ARound ..
    exact⟨⟨(j+1,N2),hjl,hN2,hMN2⟩,(by dsimp only;omega),[],(by repeat' first|exact .nil|refine .cons _ _ _ ?_ ?_|exact .int_eq wj|exact .same|exact .c _ _ (.own _ _ rfl)|exact .c _ _ (.ptr _ _ _ _ rfl)|exact .c _ _ (.frz _ _ rfl)|exact .any _),(by exact .nil),(by rfl)⟩
  ·have hje:j=M.length:=by simp at h;omega
   show ABr ((N.length:Int)==(M.length:Int)) _ _
   by_cases hq:N.length=M.length
   ·rw[show((N.length:Int)==(M.length:Int))=true by simp[hq]]
    refine zYE (by decide) ?_
    show ARet ..
    exact⟨[],[],[.c (.d (.sl .int N))],.cons _ _ _ _ (.c _ _ (.d _)) .nil,.nil,rfl,N,rfl,rfl,hN.p⟩
   ·rw[show((N.length:Int)==(M.length:Int))=false by simp;omega]
    refine zNO (by decide) ?_
    show ARound ..
    exact⟨⟨N,hN⟩,(by dsimp only;omega),[],(by repeat' first|exact .nil|refine .cons _ _ _ ?_ ?_|exact .same|exact .c _ _ (.own _ _ rfl)|exact .c _ _ (.ptr _ _ _ _ rfl)|exact .c _ _ (.frz _ _ rfl)|exact .any _),(by exact .nil),(by rfl)⟩
theorem TopWhite_spec (n:Int) (l:List (List Op)) (e:List Pair):Spec X 6 [] [.int n,.c (.d (.sl .opss l)),.c (.d (.sl .pair e))] (Ret [] (.bo true)):=by
 refine zGO X_ok Tryz.f6 fun hb hH=>⟨rfl,?_⟩
 have hle:e.length<=zA:=(hb (.c (.d (.sl .pair e))) (by simp)).1
 unfold zA at hle
 show ACall ..
 refine za (zxE) rfl ?_
 show ACall ..
 refine za (znn l e 120) rfl ?_
 cases hL:ziq l e 120 with
 |false=>
  show ABr true _ _
  refine zYE (by decide) ?_
  show ARet ..
  exact zg rfl ⟨rfl,rfl⟩
 |true=>
  show ABr (decide (n>4)) _ _
  by_cases hn:n<=4
  ·rw[decide_eq_false (show ¬n>4 by omega)]
   refine zNO (by decide) ?_
   show ACall ..
   refine za (zmB n l) rfl ?_
   have hel:e.length<=120:=by
    unfold ziq at hL
    simp only[Bool.and_eq_true,decide_eq_true_eq]at hL
    omega
   show ABr (zeI n l != 0) _ _
   by_cases h0:zeI n l≠0
   ·rw[show(zeI n l != 0)=true by simpa using h0]
    refine zYE (by decide) ?_
    show ARet ..
    exact zg rfl ⟨rfl,rfl⟩
   ·rw[show(zeI n l != 0)=false by simpa using h0]
    refine zNO (by decide) ?_
    have h0:=Classical.not_not.1 h0
    have hF':=zsM h0 (e:=e) (by omega)
    have hM:=(zl1 h0).1
    have hA:AllW (madeW n l):=⟨AnsW.made n l,EpW.made h0,InW.made h0⟩
    have hW:=W64.made h0
    generalize madeW n l=W at hF' hM hA hW ⊢
    show ∃n,_
    refine⟨0,ALoop.inv (ι:={i:Nat // i<=e.length}) (fun q=>⟨[(2,(.c (.d (.sl .pair e)))),(9,.c (.ptr 0 0 0)),(11,.int (q.1))],[(0,.vars ((runW W (e.take q.1)).cells.map .d))],64⟩) (fun q=>e.length-q.1) ⟨0,Nat.zero_le _⟩ ?_ ?_⟩
    ·exact⟨[(768,0)],(by repeat' first|exact .nil|refine .cons _ _ _ ?_ ?_|exact .c _ _ (.ptr _ _ _ _ rfl)|exact .same|exact .c _ _ (.own _ _ rfl)|exact .c _ _ (.ptr _ _ _ _ rfl)|exact .c _ _ (.frz _ _ rfl)|exact .any _),(by exact .old 0 768 _ _ _ rfl rfl (.vars _ _ (by repeat (first|exact .nil|refine .cons _ _ _ _ (.d _) ?_))) .nil),(by rfl)⟩
    rintro⟨i,hi⟩
    show ABr (decide ((i:Int)<(e.length:Int))) _ _
    refine⟨fun h=>?_,fun h=>?_⟩
    ·have hlt:i<e.length:=by simpa using h
     have wi:IntKind.i64.wrap ((i:Int)+1)=((i+1:Nat):Int):=zP (i:=i) (by unfold zA;omega)
     show AOb ..
     refine⟨by exact⟨Int.natCast_nonneg _,Int.ofNat_lt.2 hlt⟩,?_⟩
     show ADCall ..
     refine .mk _ _ (zdQ (runW W (e.take i)) (e.getD i default) (hF' i)) rfl ?_
     generalize doWE (runW W (e.take i)) (e.getD i default)=x
     have hfit:=hF' (i+1)
     have hall:=hA.run (e.take (i+1))
     have h64:=hW.run (e.take (i+1))
     have hmay:=zok hM (e.take (i+1))
     rw[←zmr W hlt]
     obtain⟨w',hw'⟩:∃w',w' = runW W (e.take (i+1)):=⟨_,rfl⟩
     rw[←hw']at hfit hall h64 hmay ⊢
     have hlight:=zhT hmay
     show ABr (w'.c.phase != 6) _ _
     by_cases hp:w'.c.phase=6
     ·rw[show(w'.c.phase != 6)=false by rw[hp];rfl]
      refine zNO (by decide) ?_
      show ACall ..
      refine .mk _ (znp w' (fun v=>headE w'.h v=0/\atK w'.h w'.c v≠1) hmay h64.h (fun t ht hl v hv=>?_) (fun a f ha hf=>?_) (fun v hv=>hv.1)) fun H r ⟨L,eH,er,hLn⟩ hbr _=>⟨.inl rfl,?_⟩
      ·have T:=hall.i.t t ht hl
       exact(T.d v hv).imp id fun q=>⟨q,T.s6 hp v hv⟩
      ·exact(hall.i.h.d a f hf fun q=>ha.2 q.2).imp id fun q=>⟨q,hall.i.h.f6 hp a f hf ha.2⟩
      subst eH er
      have hLl:L.length<=zA:=(show _/\_ from hbr).1
      show ∃n,_
      refine⟨0,ALoop.inv (ι:={j:Nat // j<=L.length}) (fun q=>⟨[(2,(.c (.d (.sl .pair e)))),(9,.c (.ptr 0 0 0)),(11,.int ((i:Int))),(12,.c (.d (.sl .int (L)))),(13,.int (q.1))],[(0,.vars (w'.cells.map .d))],64⟩) (fun q=>L.length-q.1) ⟨0,Nat.zero_le _⟩ ?_ ?_⟩
      ·exact⟨[(0,0)],(by repeat' first|exact .nil|refine .cons _ _ _ ?_ ?_|exact .c _ _ (.ptr _ _ _ _ rfl)|exact .same|exact .c _ _ (.own _ _ rfl)|exact .c _ _ (.ptr _ _ _ _ rfl)|exact .c _ _ (.frz _ _ rfl)|exact .any _),(by exact .old 0 0 _ _ _ rfl rfl (.vars _ _ (by repeat (first|exact .nil|refine .cons _ _ _ _ (.d _) ?_))) .nil),(by rfl)⟩
      rintro⟨j,hj⟩
      show ABr (decide ((j:Int)<(L.length:Int))) _ _
      refine⟨fun h=>?_,fun h=>?_⟩
      ·have hjl:j<L.length:=by simpa using h
       have wj:IntKind.i64.wrap ((j:Int)+1)=((j+1:Nat):Int):=zP (i:=j) (by unfold zA at hLl ⊢;omega)
       have hv:=(hLn _ (zcg hjl)).2
       show AOb ..
       refine⟨by exact⟨Int.natCast_nonneg _,Int.ofNat_lt.2 hjl⟩,?_⟩
       show ADCall ..
       refine .mk _ _ (ziY w'.h w'.c (L.getD j default) hlight h64.h) rfl ?_
       show ABr (atK w'.h w'.c (L.getD j default)==1) _ _
       rw[show(atK w'.h w'.c (L.getD j default)==1)=false by simpa using hv]
       refine zNO (by decide) ?_
       show ARound ..
       exact⟨⟨j+1,hjl⟩,(by dsimp only;omega),[(0,0)],(by repeat' first|exact .nil|refine .cons _ _ _ ?_ ?_|exact .c _ _ (.ptr _ _ _ _ rfl)|exact .int_eq wj|exact .same|exact .c _ _ (.own _ _ rfl)|exact .c _ _ (.ptr _ _ _ _ rfl)|exact .c _ _ (.frz _ _ rfl)|exact .any _),(by exact .old 0 0 _ _ _ rfl rfl (.vars _ _ (by repeat (first|exact .nil|refine .cons _ _ _ _ (.d _) ?_))) .nil),(by rfl)⟩
      ·have hg:zlw w'.h w'.c=[]:=List.eq_nil_iff_forall_not_mem.2 fun u hu=>hall.i.h.g6 hp u (zv9.1 hu)
       have hsp:=zod w'.h w'.c hlight h64.h
       rw[hg]at hsp
       show ACall ..
       refine .mk _ hsp fun H r ⟨eH,er⟩ _ _=>⟨.inl rfl,?_⟩
       subst eH er
       refine zNO (by decide) ?_
       show ARound ..
       exact⟨⟨i+1,hlt⟩,(by dsimp only;omega),[(0,0)],(by repeat' first|exact .nil|refine .cons _ _ _ ?_ ?_|exact .c _ _ (.ptr _ _ _ _ rfl)|exact .int_eq wi|exact .same|exact .c _ _ (.own _ _ rfl)|exact .c _ _ (.ptr _ _ _ _ rfl)|exact .c _ _ (.frz _ _ rfl)|exact .any _),(by exact .old 0 0 _ _ _ rfl rfl (.vars _ _ (by rw[←hw'];repeat (first|exact .nil|refine .cons _ _ _ _ (.d _) ?_))) .nil),(by rfl)⟩
     ·rw[show(w'.c.phase != 6)=true by simpa using hp]
      refine zYE (by decide) ?_
      show ARound ..
      exact⟨⟨i+1,hlt⟩,(by dsimp only;omega),[(0,0)],(by repeat' first|exact .nil|refine .cons _ _ _ ?_ ?_|exact .c _ _ (.ptr _ _ _ _ rfl)|exact .int_eq wi|exact .same|exact .c _ _ (.own _ _ rfl)|exact .c _ _ (.ptr _ _ _ _ rfl)|exact .c _ _ (.frz _ _ rfl)|exact .any _),(by exact .old 0 0 _ _ _ rfl rfl (.vars _ _ (by rw[←hw'];repeat (first|exact .nil|refine .cons _ _ _ _ (.d _) ?_))) .nil),(by rfl)⟩
    ·show ARet ..
     exact zg rfl ⟨rfl,rfl⟩
  ·rw[decide_eq_true (show n>4 by omega)]
   refine zYE (by decide) ?_
   show ARet ..
   exact zg rfl ⟨rfl,rfl⟩
end Go.Abs
