/- Each operation is held against what is said of it: second half. -/
import Derived.Test.YtlankjlnnimdoaaGreatDoorAbsOps1
import Derived.IntWalk
set_option linter.all false
namespace Go.Abs
section
variable {X:Ctx} {N:zm} {S:Nat->Prop} {w:World}
theorem zqu {P:Program} {t u e e2 ty:TypeId} (h1:P.underlying t=some (.slice e)) (h2:P.underlying u=some (.slice e2)) {i:TypeInfo} (hi:P.info? e=some i) {base b:Option Addr} {sLen sCap n c:Nat} {news:List Value}
  (hf:(Builtin.firstCells i.size n (.slice b n c)).run P w = .ok news.toArray w) (hroom:sLen+n<=sCap) :
  (Builtin.append_ #[t,u] ty #[.slice base sLen sCap,.slice b n c]).run P w =
   match base with
   |none=>.ok (.slice none (sLen+n) sCap) w
   |some a=>((storeCells (a.add (sLen*i.size)) news).run P w).andThen fun _ w'=>.ok (.slice (some a) (sLen+n) sCap) w':=by
 cases base<;>simp[Builtin.append_,run_underlying h1,run_underlying h2,sizeOf,typeInfo,hi,Builtin.lenOf,hroom,hf]
theorem zqH {P:Program} {t u e e2 ty:TypeId} (h1:P.underlying t=some (.slice e)) (h2:P.underlying u=some (.slice e2)) {i:TypeInfo} (hi:P.info? e=some i) {z:Value} (hz:i.zero=some z) {base b:Option Addr} {sLen sCap n c:Nat} {olds news:List Value}
  (hfo:(Builtin.firstCells i.size sLen (.slice base sLen sCap)).run P w.drew = .ok olds.toArray w.drew)
  (hf:(Builtin.firstCells i.size n (.slice b n c)).run P w.drew = .ok news.toArray w.drew) (hg:sCap<sLen+n) (h63:sLen+n<=9223372036854775807) (hfit:Builtin.nextslicecap (sLen+n) sCap*i.bytes<=281474976710656) :
  (Builtin.append_ #[t,u] ty #[.slice base sLen sCap,.slice b n c]).run P w =
   .ok (.slice (some ⟨w.heap.size,0,none⟩) (sLen+n) (grownCap w (sLen+n) sCap e))
    (w.drew.alloc (.cells (olds.toArray++news.toArray++Builtin.zeroCells z.cells (grownCap w (sLen+n) sCap e-(sLen+n))) e)):=by
 have hn:¬(sLen+n<=sCap):=by omega
 have h63' : ¬(9223372036854775807<((sLen:Int)+(n:Int))):=by omega
 have h48' : ¬(281474976710656<Builtin.nextslicecap (sLen+n) sCap*i.bytes):=by omega
 simp[Builtin.append_,run_underlying h1,run_underlying h2,sizeOf,typeInfo,zeroValue,hi,hz,Builtin.lenOf,hn,h63',h48',Question.forced,hf,hfo,newRow,grownCap]
 rw[←Array.append_assoc]
 simp
theorem zwf {α:Type} (l:List α) (n:Nat) (h:l.length=n):l.take n=l:=by rw[←h,List.take_length]
theorem zgl {P:Program} {a:Act} {o:Oper} {x y:Operand} {t u:Nat} {b:Builtin} (hb:b = .append) (ho:o.op = .call {callee:=.builtin b,args:=#[x,y],argTypes:=#[t,u]}) :
  (execOp a.eval o).run P w=((Builtin.append_ #[t,u] o.type #[a.eval x,a.eval y]).run P w).andThen fun v w'=>.ok (.value v) w':=by
 subst hb
 unfold execOp;rw[ho]
 simp[resolve,invoke,builtin]
theorem zrR {e:Nat} {k:EK} {zs:List k.T} {olds news:List Value} (cap:Nat) (hc:zs.length<=cap) (hm:zs.length<=zE) (hr:RepL (OO N S) w (zs.flatMap k.enc) (olds++news)) (z:Value) (hz:z.cells.size=k.size) :
  ∀w1:World,WExt (fun _=>False) w w1->w1.heap.size=w.heap.size->∀N' : zm,NExt N N' w->∀base,N' base = .live ⟨w.heap.size,cap,zs.length,k.size⟩ ->
   BR N' S (w1.alloc (.cells (olds.toArray++news.toArray++Builtin.zeroCells z.cells (cap-zs.length)) e)) base (.data k zs):=by
 intro w1 hw1 he N' hn base hb
 have hx:WExt (fun _=>False) w (w1.alloc (.cells (olds.toArray++news.toArray++Builtin.zeroCells z.cells (cap-zs.length)) e)):=hw1.trans (zbU w1 _) (fun _ _ h=>h.elim)
 have hlen:(olds++news).length=zs.length*k.size:=by rw[←hr.1,za1]
 refine⟨hm,.inr ⟨_,olds.toArray++news.toArray++Builtin.zeroCells z.cells (cap-zs.length),e,hb,rfl,rfl,hc,?_,?_,?_⟩⟩
 ·have:=Go.heap_alloc_new w1 (.cells (olds.toArray++news.toArray++Builtin.zeroCells z.cells (cap-zs.length)) e)
  rw[he]at this
  exact this
 ·simp only[Array.size_append,List.size_toArray,size_zeroCells,hz]
  rw[List.length_append]at hlen
  rw[hlen,←Nat.add_mul]
  exact Nat.mul_le_mul_right _ (by omega)
 ·simp only[Array.toList_append]
  rw[←hlen,List.take_left]
  exact hr.keep (hx.mono (fun _ _ h=>h.elim)) (hn.oo S)
theorem zm3 (hX:XOk X) (hnr:NR N S w) {h:zg} (hh:HR N S w h) {base:Nat} (hf:N base = .unused) {a:Act} {o:Oper} {x y:Operand} {t u:Nat} (ho:o.op = .call {callee:=.builtin .append,args:=#[x,y],argTypes:=#[t,u]})
  {e2:Nat} (hku:(X.ty u).k = .slc e2) {p q:TV} (hp:RepT N S w p (a.eval x)) (hq:RepT N S w q (a.eval y)):(zo3 X h base t p q).Sound X.P N S w (execOp a.eval o):=by
 have hcall:=zgl (P:=X.P) (w:=w) (a:=a) rfl ho
 unfold zo3
 split
 ·rename_i e x' y' hk
  have hut:=zaX hX hk
  have huu:=zaX hX hku
  split
  ·rename_i k hek
   have hok:(X.ty e).ok=true:=by
    cases hok:(X.ty e).ok with
    |true=>rfl
    |false=>have:=(hX.kind e hok).2.2;rw[hek]at this;cases this
   obtain⟨hks,hby⟩:=(hX.ty e hok).ek k hek
   obtain⟨j,z,hj,hjz,hjs,hzs,_⟩:=zcm (N:=N) (S:=S) (w:=w) (hX.ty e hok)
   obtain⟨j',_,hj',hjs',hjb,_⟩:=(hX.ty e hok).info
   rw[hj]at hj'
   cases hj'
   split
   ·rename_i ys hys
    cases hp with|c _ _ hp=>
    cases hq with|c _ _ hq=>
    have hsrc:=zrg hh hys hq
    obtain⟨b,c,news,hyv,hyr,hyl,hyf⟩:=ztY (P:=X.P) hsrc
    have hsz:j.size=k.size:=by omega
    have hfw:∀w',(∀a u,w.cell? a=some u->w'.cell? a=some u)->(Builtin.firstCells j.size ys.length (.slice b ys.length c)).run X.P w' = .ok news.toArray w':=by
     intro w' hw'
     have:=hyf ys.length (Nat.le_refl _) w' hw'
     rw[zwf news _ hyl,hyv]at this
     rw[hsz]
     exact this
    have hzsz:z.cells.size=k.size:=by omega
    have main:∀(b0:Nat) (xs:List k.T) (hasb:Bool) (s0:Option Addr) (cap0:Nat),(hasb=true->N b0≠.unused)->a.eval x = .slice s0 xs.length cap0 ->
      (xs.length+ys.length<=zk) ->
      ((xs=[]/\cap0=0)\/(hasb=true/\∃r cur T,N b0 = .live r/\s0=some ⟨r.blk,0,none⟩/\w.heap[r.blk]? = some (.cells cur T (0,0))/\cap0*k.size<=cur.size/\RepL (OO N S) w (xs.flatMap k.enc) (cur.toList.take (xs.length*k.size)))) ->
      zcQ X.P N S w (execOp a.eval o) (.c (.own base)) (match hasb with|true=>[(base,.data k (xs++ys)),(b0,.dead)]|false=>[(base,.data k (xs++ys))]):=by
     intro b0 xs hasb s0 cap0 hb0 hxv hmost hcase
     have hmx:(xs++ys).length<=zE:=by simp only[List.length_append,zE,zk]at *;omega
     rw[hyv]at hcall
     rw[hxv]at hcall
     rcases Nat.lt_or_ge cap0 (xs.length+ys.length) with hgrow|hroom
     ·
      have hfit:Builtin.nextslicecap (xs.length+ys.length) cap0*j.bytes<=281474976710656:=by
       refine growslice_fits hgrow ?_
       have hm' : xs.length+ys.length<=68719476736:=hmost
       have h1:(xs.length+ys.length)*j.bytes<=68719476736*1024:=Nat.mul_le_mul hm' (by omega)
       omega
      have hold:∃olds:List Value,(Builtin.firstCells j.size xs.length (.slice s0 xs.length cap0)).run X.P w.drew = .ok olds.toArray w.drew/\RepL (OO N S) w (xs.flatMap k.enc) olds:=by
       rcases hcase with⟨rfl,rfl⟩|⟨_,r,cur,T,h1,h4,h5,h6,h7⟩
       ·refine⟨[],?_,repL_nil⟩
        cases s0 with
        |none=>simp[run_firstCells_none]
        |some ad=>exact run_firstCells_some (P:=X.P) w.drew j.size 0 ad 0 0 [] (by simp) (by intro j v hv;simp at hv)
       ·refine⟨_,?_,h7⟩
        subst h4
        have hl:=h7.1
        rw[za1]at hl
        refine run_firstCells_some (P:=X.P) w.drew j.size xs.length _ _ _ _ (by rw[hsz];exact hl.symm) fun i v hv=>?_
        rw[zeS,Nat.zero_add]
        rw[List.getElem?_take]at hv
        split at hv
        ·show w.cell? _=_
         simp only[World.cell?,h5]
         simpa using hv
        ·cases hv
      obtain⟨olds,hfo,hor⟩:=hold
      have hrun:=zqH (w:=w) (ty:=o.type) hut huu hj hjz hfo (hfw w.drew (fun _ _ h=>h)) hgrow (by simp only[zk]at hmost;omega) hfit
      have hge:=grownCap_ge w (xs.length+ys.length) cap0 e
      have hlen:(xs++ys).length=xs.length+ys.length:=List.length_append
      have hbr:=zrR (e:=e) (zs:=xs++ys) (olds:=olds) (news:=news) (grownCap w (xs.length+ys.length) cap0 e) (by rw[hlen];exact hge) hmx (by rw[List.flatMap_append];exact za2 hor hyr) z hzsz w.drew (zjH w) rfl
      rw[hlen]at hbr
      rw[hrun]at hcall
      have hwx:WExt (fun _=>False) w (w.drew.alloc (.cells (olds.toArray++news.toArray++Builtin.zeroCells z.cells (grownCap w (xs.length+ys.length) cap0 e-(xs.length+ys.length))) e)):=(zjH w).trans (zbU _ _) (fun _ _ h=>h.elim)
      cases hasb with
      |false=>
       have hN:=zoD (w:=w) hf ⟨w.heap.size,grownCap w (xs.length+ys.length) cap0 e,xs.length+ys.length,k.size⟩ rfl
       exact⟨_,_,_,.inl hcall,.c _ _ (.ownk base ⟨w.heap.size,grownCap w (xs.length+ys.length) cap0 e,xs.length+ys.length,k.size⟩ k (zy N _ _) rfl),ziU hnr hf _ rfl hwx (by simp) (hbr _ hN base (zy N _ _))⟩
      |true=>
       have hst:=zeN (N:=N) (S:=S) (w:=w) hnr hf (hb0 rfl) (.live ⟨w.heap.size,grownCap w (xs.length+ys.length) cap0 e,xs.length+ys.length,k.size⟩) (hwx.mono (fun _ _ h=>h.elim)) (by intro r hr;cases hr;exact .inl ⟨rfl,by simp⟩) (x:=.data k (xs++ys))
       refine⟨_,_,_,.inl hcall,.c _ _ (.ownk base ⟨w.heap.size,grownCap w (xs.length+ys.length) cap0 e,xs.length+ys.length,k.size⟩ k (zy _ _ _) rfl),hst (hbr _ ?_ base (zy _ _ _))⟩
       have hN:=zoD (w:=w) hf ⟨w.heap.size,grownCap w (xs.length+ys.length) cap0 e,xs.length+ys.length,k.size⟩ rfl
       refine⟨fun q=>?_,fun kk hk ⟨q,hq⟩=>?_⟩
       ·by_cases e1:q=base
        ·subst e1;exact .inl hf
        ·by_cases e2:q=b0
         ·subst e2;exact .inr (.inr (.inl (by rw[zo _ _ e1,zy])))
         ·exact .inr (.inl (by rw[zo _ _ e1,zo _ _ e2]))
       ·by_cases e1:q=base
        ·subst e1;rw[zy]at hq;have he:w.heap.size=kk:=hq;omega
        ·rw[zo _ _ e1]at hq
         by_cases e2:q=b0
         ·subst e2;rw[zy]at hq;exact hq.elim
         ·rw[zo _ _ e2]at hq;exact⟨q,hq⟩
     ·
      have hrun:=zqu (w:=w) (ty:=o.type) (base:=s0) (sLen:=xs.length) (sCap:=cap0) hut huu hj (hfw w (fun _ _ h=>h)) hroom
      rw[hrun]at hcall
      rcases hcase with⟨rfl,rfl⟩|⟨hb,r,cur,T,h1,h4,h5,h6,h7⟩
      ·have hys0:ys=[]:=List.eq_nil_of_length_eq_zero (by simp at hroom;simpa using hroom)
       subst hys0
       have hnews:news=[]:=List.eq_nil_of_length_eq_zero (by rw[hyl];simp)
       subst hnews
       have hcall' : (execOp a.eval o).run X.P w = .ok (.value (.slice s0 0 0)) w:=by
        rw[hcall]
        cases s0<;>simp[storeCells]
       cases hasb with
       |false=>exact⟨_,_,_,.inl hcall',.c _ _ (.own0 base s0 (zy N _ _)),zmv hnr hf k⟩
       |true=>
        exact⟨_,_,_,.inl hcall',.c _ _ (.own0 base s0 (zy _ _ _)),zeN hnr hf (hb0 rfl) .nil (WExt.refl _ _) (by intro r hr;cases hr) ⟨hmx,.inl ⟨zy _ _ _,rfl⟩⟩⟩
      ·subst hb
       subst h4
       simp only at hcall
       have hxl:(cur.toList.take (xs.length*k.size)).length=xs.length*k.size:=by rw[←h7.1,za1]
       have hle:xs.length*k.size+ys.length*k.size<=cap0*k.size:=by rw[←Nat.add_mul];exact Nat.mul_le_mul_right _ hroom
       have h1c:∀u∈news,u.oneCell' = true:=zd5 (zc7 hyr)
       have hst:=run_storeCells_at X.P r.blk (xs.length*k.size) T news 0 cur w h5 (by rw[hyl];omega) h1c
       rw[zeS,Nat.zero_add,hsz,hst]at hcall
       simp only[Nat.add_zero,Result.andThen_ok]at hcall
       have hwx:=zcF w r.blk cur ((cur.toList.take (xs.length*k.size)++news++cur.toList.drop (xs.length*k.size+news.length)).toArray) T h5
       have hstep:=zeN (N:=N) (S:=S) (w:=w) hnr hf (hb0 rfl) (.live ⟨r.blk,cap0,xs.length+ys.length,k.size⟩) (hwx.mono (by rintro kk _ rfl;exact⟨r,h1,rfl⟩)) (by intro r' hr;cases hr;exact .inr ⟨r,h1,rfl⟩)
        (x:=.data k (xs++ys)) ?_
       ·exact⟨_,_,_,.inl hcall,.c _ _ (.ownk base ⟨r.blk,cap0,xs.length+ys.length,k.size⟩ k (zy _ _ _) rfl),hstep⟩
       ·refine⟨hmx,.inr ⟨_,_,T,zy _ _ _,rfl,by simp,by simpa using hroom,setRow_heap w r.blk cur _ T _ h5,?_,?_⟩⟩
        ·simp only[List.size_toArray,List.length_append,List.length_take,List.length_drop,Array.length_toList]
         omega
        ·have hlen2:(xs++ys).length*k.size=(cur.toList.take (xs.length*k.size)++news).length:=by rw[List.length_append,List.length_append,hxl,hyl,Nat.add_mul]
         have hN:NExt N (zbw (zbw N b0 .dead) base (.live ⟨r.blk,cap0,xs.length+ys.length,k.size⟩)) w:=by
          refine⟨fun q=>?_,fun kk hk ⟨q,hq⟩=>?_⟩
          ·by_cases e1:q=base
           ·subst e1;exact .inl hf
           ·by_cases e2:q=b0
            ·subst e2;exact .inr (.inr (.inl (by rw[zo _ _ e1,zy])))
            ·exact .inr (.inl (by rw[zo _ _ e1,zo _ _ e2]))
          ·by_cases e1:q=base
           ·subst e1;rw[zy]at hq;have he:r.blk=kk:=hq;exact he▸zet h1
           ·rw[zo _ _ e1]at hq
            by_cases e2:q=b0
            ·subst e2;rw[zy]at hq;exact hq.elim
            ·rw[zo _ _ e2]at hq;exact⟨q,hq⟩
         have:=(za2 h7 hyr).keep (zey (S:=S) h1 hwx) (hN.oo S)
         rw[←List.flatMap_append]at this
         rw[hlen2]
         show RepL _ _ _ (List.take _ (cur.toList.take (xs.length*k.size)++news++cur.toList.drop (xs.length*k.size+news.length)))
         rw[List.take_left]
         exact this
    have ownCase:∀(b:Nat) (xs:List k.T),zez h k (.own b)=some xs->(N b = .nil/\xs=[])\/∃r cur T,N b = .live r/\r.esz=k.size/\r.len=xs.length/\xs.length<=r.cap/\w.heap[r.blk]? = some (.cells cur T (0,0))/\r.cap*k.size<=cur.size/\RepL (OO N S) w (xs.flatMap k.enc) (cur.toList.take (xs.length*k.size)):=by
     intro b xs hx
     simp only[zez]at hx
     split at hx
     ·rename_i k' l hb
      split at hx
      ·rename_i e
       subst e
       cases hx
       obtain⟨_,hn|⟨r,ws,T,h1,h2,h3,h4,h5,h6,h7⟩⟩:=hh b _ hb
       ·exact .inl hn
       ·exact .inr ⟨r,ws,T,h1,h2,h3,h4,h5,h6,h7⟩
      ·cases hx
     ·cases hx
    split
    ·intro hob
     have hxv:=(za9 hp).1
     have:=main 0 [] false none 0 (by simp) hxv (by simpa using hob) (.inl ⟨rfl,rfl⟩)
     exact this
    ·rename_i b0
     split
     ·rename_i xs hxs
      intro hob
      rcases ownCase b0 xs hxs with⟨hn,rfl⟩|⟨r,cur,T,h1,h2,h3,h4,h5,h6,h7⟩
      ·generalize hxv:a.eval x=v at hp
       cases hp with
       |own0 _ ad _=>exact main b0 [] true ad 0 (by simp[hn]) hxv hob (.inl ⟨rfl,rfl⟩)
       |own _ r hr=>rw[hn]at hr;cases hr
       |ownD _ _ hd _=>rw[hn]at hd;cases hd
      ·generalize hxv:a.eval x=v at hp
       cases hp with
       |own0 _ ad hd=>rw[h1]at hd;cases hd
       |ownD _ _ hd _=>rw[h1]at hd;cases hd
       |own _ r' hr'=>
        rw[h1]at hr'
        cases hr'
        rw[zaE h2,h3]at hxv
        exact main b0 xs true _ r.cap (by simp[h1]) hxv hob (.inr ⟨rfl,r,cur,T,h1,rfl,h5,h6,h7⟩)
     ·trivial
    ·rename_i b0 n
     split
     ·rename_i xs hxs
      intro hob
      generalize hxv:a.eval x=v at hp
      rcases ownCase b0 xs hxs with⟨hn,rfl⟩|⟨r,cur,T,h1,h2,h3,h4,h5,h6,h7⟩
      ·cases hp with
       |view0 _ _ ad _=>exact main b0 [] true ad 0 (by simp[hn]) hxv (by simpa using hob) (.inl ⟨rfl,rfl⟩)
       |view _ _ _ c r hr=>rw[hn]at hr;cases hr
       |viewD _ _ _ _ hd _=>rw[hn]at hd;cases hd
      ·cases hp with
       |viewD _ _ _ _ hd _=>rw[h1]at hd;cases hd
       |view0 _ _ ad _=>
        have:=main b0 [] true ad 0 (by simp[h1]) hxv (by simpa using hob) (.inl ⟨rfl,rfl⟩)
        rw[List.take_zero]
        exact this
       |view _ _ _ c r' hr' hc1 hc2 hc3=>
        rw[h1]at hr'
        cases hr'
        have hlen:(xs.take n).length=n:=by simp;omega
        rw[Nat.zero_mul]at hxv
        refine main b0 (xs.take n) true _ c (by simp[h1]) (by rw[hlen];exact hxv) (by rw[hlen];exact hob) (.inr ⟨rfl,r,cur,T,h1,rfl,h5,?_,?_⟩)
        ·have:c*k.size<=r.cap*k.size:=Nat.mul_le_mul_right _ (by omega)
         omega
        ·have h8:=zbK (n*k.size) h7
         rw[←zbe,List.take_take]at h8
         have:min (n*k.size) (xs.length*k.size)=n*k.size:=by
          have:n*k.size<=xs.length*k.size:=Nat.mul_le_mul_right _ (by omega)
          omega
         rw[this]at h8
         rw[hlen]
         exact h8
     ·trivial
    ·trivial
   ·trivial
  ·trivial
 ·trivial
end
section
variable {X:Ctx} {N:zm} {S:Nat->Prop} {w:World}
structure RowOf (N:zm) (S:Nat->Prop) (w:World) (k:EK) (l:List k.T) (r:RL) (cur:Array Value) (T:TypeId):Prop where
 esz:r.esz=k.size
 len:r.len=l.length
 le:l.length<=r.cap
 at_:w.heap[r.blk]? = some (.cells cur T (0,0))
 size:r.cap*k.size<=cur.size
 rep:RepL (OO N S) w (l.flatMap k.enc) (cur.toList.take (l.length*k.size))
theorem zht {h:zg} (hh:HR N S w h) {k:EK} {b:Nat} {xs:List k.T} (hx:zez h k (.own b)=some xs):xs.length<=zE/\((N b = .nil/\xs=[])\/∃r cur T,N b = .live r/\RowOf N S w k xs r cur T):=by
 simp only[zez]at hx
 split at hx
 ·rename_i k' l hb
  split at hx
  ·rename_i e
   subst e
   cases hx
   obtain⟨hm,hn|⟨r,ws,T,h1,h2,h3,h4,h5,h6,h7⟩⟩:=hh b _ hb
   ·exact⟨hm,.inl hn⟩
   ·exact⟨hm,.inr ⟨r,ws,T,h1,h2,h3,h4,h5,h6,h7⟩⟩
  ·cases hx
 ·cases hx
theorem zdy {α:Type} (l:List α) (o:Nat) (ys:List α) (h:o+ys.length<=l.length):(zK l o ys).length=l.length:=by
 simp[zK];omega
theorem zp8 (k:EK) (l:List k.T) (o:Nat) (ys:List k.T):(zK l o ys).flatMap k.enc=(l.flatMap k.enc).take (o*k.size)++ys.flatMap k.enc++(l.flatMap k.enc).drop (o*k.size+ys.length*k.size):=by
 unfold zK
 rw[List.flatMap_append,List.flatMap_append,zbe,zdg,Nat.add_mul]
theorem zp1 {α:Type} (l:List α) (n o:Nat) (us:List α) (h:o+us.length<=n) (hn:n<=l.length) :
  (l.take o++us++l.drop (o+us.length)).take n=(l.take n).take o++us++(l.take n).drop (o+us.length):=by
 rw[List.take_append,List.take_append,List.take_take,List.take_take]
 have c1:min n o=o:=by omega
 have c2:min o n=o:=by omega
 have c3:(l.take o).length=o:=by simp;omega
 rw[c1,c2,c3,List.take_of_length_le (l:=us) (by omega)]
 congr 1
 rw[List.drop_take]
 congr 1
 simp only[List.length_append,c3]
theorem znu {P:Program} (hnr:NR N S w) {b:Nat} {k:EK} {xs:List k.T} {r:RL} {cur:Array Value} {T:TypeId} (hb:N b = .live r) (hrow:RowOf N S w k xs r cur T) (hm:xs.length<=zE) (o:Nat) (zs:List k.T) (us:List Value)
  (hz:RepL (OO N S) w (zs.flatMap k.enc) us) (hle:o+zs.length<=xs.length) :
  ∃w',(storeCells ⟨r.blk,o*k.size,none⟩ us).run P w = .ok () w'/\Step N S w N w' [(b,.data k (zK xs o zs))]:=by
 have hul:us.length=zs.length*k.size:=by rw[←hz.1,za1]
 have h1:o*k.size+zs.length*k.size<=xs.length*k.size:=by rw[←Nat.add_mul];exact Nat.mul_le_mul_right _ hle
 have h2:xs.length*k.size<=r.cap*k.size:=Nat.mul_le_mul_right _ hrow.le
 have h3:=hrow.size
 have hst:=run_storeCells_at P r.blk (o*k.size) T us 0 cur w hrow.at_ (by omega) (zd5 (zc7 hz))
 simp only[Nat.add_zero]at hst
 have hwx:=zcF w r.blk cur ((cur.toList.take (o*k.size)++us++cur.toList.drop (o*k.size+us.length)).toArray) T hrow.at_
 refine⟨_,hst,zes hnr hb hwx ?_⟩
 have hsl:=zdy xs o zs hle
 refine⟨by rw[hsl];exact hm,.inr ⟨r,_,T,hb,hrow.esz,by rw[hsl];exact hrow.len,by rw[hsl];exact hrow.le,setRow_heap w r.blk cur _ T _ hrow.at_,?_,?_⟩⟩
 ·simp only[List.size_toArray,List.length_append,List.length_take,List.length_drop,Array.length_toList]
  omega
 ·rw[hsl]
  show RepL _ _ _ (List.take _ (cur.toList.take (o*k.size)++us++cur.toList.drop (o*k.size+us.length)))
  rw[zp1 cur.toList _ _ us (by omega) (by simp;omega),zp8,←hul]
  have:=(za2 (za2 (zbK (o*k.size) hrow.rep) hz) (zdb (o*k.size+us.length) hrow.rep)).keep (zey (S:=S) hb hwx) ((NExt.refl N w).oo S)
  exact this
theorem zon {P:Program} {a:Act} {o:Oper} {x y:Operand} {t u:Nat} (ho:o.op = .call {callee:=.builtin .copy,args:=#[x,y],argTypes:=#[t,u]}) :
  (execOp a.eval o).run P w=((Builtin.copy_ #[t,u] o.type #[a.eval x,a.eval y]).run P w).andThen fun v w'=>.ok (.value v) w':=by
 unfold execOp;rw[ho]
 simp[resolve,invoke,builtin]
theorem zvK {P:Program} {t u ty e:TypeId} (h1:P.underlying t=some (.slice e)) {i:TypeInfo} (hi:P.info? e=some i) {base b:Option Addr} {dLen dCap n c:Nat} {news:List Value}
  (hf:(Builtin.firstCells i.size (Nat.min n dLen) (.slice b n c)).run P w = .ok news.toArray w) :
  (Builtin.copy_ #[t,u] ty #[.slice base dLen dCap,.slice b n c]).run P w =
   match base with
   |none=>.ok (goInt (Nat.min n dLen)) w
   |some a=>((storeCells a news).run P w).andThen fun _ w'=>.ok (goInt (Nat.min n dLen)) w':=by
 cases base<;>simp[Builtin.copy_,run_underlying h1,sizeOf,typeInfo,hi,Builtin.lenOf,hf]
theorem zlJ {α:Type} (l:List α) (o:Nat):zK l o []=l:=by simp[zK]
theorem znR (hnr:NR N S w) {h:zg} (hh:HR N S w h) {b:Nat} {x:AB} (hb:zh h b=some x):Step N S w N w [(b,x)]:=
 ⟨.refl _ _,hnr,.refl _ _,fun _ _=>rfl,fun c y hy=>by
  simp only[zh]at hy
  cases he:Nat.beq b c with
  |false=>rw[he]at hy;cases hy
  |true=>rw[he]at hy;cases hy;have:=Nat.eq_of_beq_eq_true he;subst this;exact hh b _ hb⟩
theorem znA {h:zg} {k:EK} {b:Nat} {xs:List k.T} (hx:zez h k (.own b)=some xs):zh h b=some (.data k xs):=by
 simp only[zez]at hx
 split at hx
 ·rename_i k' l hb
  split at hx
  ·rename_i e;subst e;cases hx;exact hb
  ·cases hx
 ·cases hx
theorem zrd (hX:XOk X) (hnr:NR N S w) {h:zg} (hh:HR N S w h) {a:Act} {o:Oper} {x y:Operand} {t u:Nat} (ho:o.op = .call {callee:=.builtin .copy,args:=#[x,y],argTypes:=#[t,u]})
  {p q:TV} (hp:RepT N S w p (a.eval x)) (hq:RepT N S w q (a.eval y)):(zw0 X h t p q).Sound X.P N S w (execOp a.eval o):=by
 have hcall:=zon (P:=X.P) (w:=w) (a:=a) ho
 unfold zw0
 split
 ·rename_i e x' y' hk
  have hut:=zaX hX hk
  split
  ·rename_i k hek
   have hok:(X.ty e).ok=true:=by
    cases hok:(X.ty e).ok with
    |true=>rfl
    |false=>have:=(hX.kind e hok).2.2;rw[hek]at this;cases this
   obtain⟨hks,hby⟩:=(hX.ty e hok).ek k hek
   obtain⟨j,z,hj,_,hjs,_⟩:=(hX.ty e hok).info
   have hsz:j.size=k.size:=by omega
   split
   ·rename_i ys hys
    cases hp with|c _ _ hp=>
    cases hq with|c _ _ hq=>
    obtain⟨b,c,news,hyv,hyr,hyl,hyf⟩:=ztY (P:=X.P) (zrg hh hys hq)
    rw[hyv]at hcall
    have main:∀(b0:Nat) (xs:List k.T) (oo n:Nat) (s0:Option Addr) (c0:Nat),zez h k (.own b0)=some xs->a.eval x = .slice s0 n c0 ->
      (n=0\/∃r cur T,N b0 = .live r/\RowOf N S w k xs r cur T/\s0=some ⟨r.blk,oo*k.size,none⟩/\oo+n<=xs.length) ->
      zcQ X.P N S w (execOp a.eval o) (.int (min ys.length n:Nat)) [(b0,.data k (zK xs oo (ys.take n)))]:=by
     intro b0 xs oo n s0 c0 hx hv hcase
     have hfc:=hyf (Nat.min ys.length n) (Nat.min_le_left _ _) w (fun _ _ h=>h)
     rw[hyv,←hsz]at hfc
     have hrun:=zvK (w:=w) (ty:=o.type) (u:=u) (base:=s0) (dLen:=n) (dCap:=c0) hut hj hfc
     rw[hv,hrun]at hcall
     rcases hcase with h0|⟨r,cur,T,h1,h2,h3,h4⟩
     ·subst h0
      have:(Nat.min ys.length 0)=0:=Nat.min_zero _
      rw[this]at hcall
      rw[List.take_zero,zlJ,Nat.min_zero]
      refine⟨.int .i64 (0:Nat),w,N,.inl ?_,zV rfl,znR hnr hh (znA hx)⟩
      rw[hcall]
      cases s0<;>simp[storeCells,goInt]
     ·subst h3
      have htk:RepL (OO N S) w ((ys.take n).flatMap k.enc) (news.take (Nat.min ys.length n*j.size)):=by
       rw[zbe,hsz]
       have:=zbK (Nat.min ys.length n*k.size) hyr
       have e:(ys.flatMap k.enc).take (n*k.size)=(ys.flatMap k.enc).take (Nat.min ys.length n*k.size):=by
        rw[←zbe,←zbe]
        congr 1
        rcases Nat.le_total ys.length n with h|h
        ·have e1:Nat.min ys.length n=ys.length:=Nat.min_eq_left h
         rw[e1,List.take_length,List.take_of_length_le h]
        ·have e1:Nat.min ys.length n=n:=Nat.min_eq_right h
         rw[e1]
       rw[e]
       exact this
      obtain⟨w',hst,hstep⟩:=znu (P:=X.P) hnr h1 h2 (zht hh hx).1 oo (ys.take n) _ htk (by simp;omega)
      refine⟨.int .i64 (min ys.length n:Nat),w',N,.inl ?_,zV rfl,hstep⟩
      rw[hcall]
      simp only[hst,Result.andThen_ok]
      rfl
    split
    ·rename_i b0
     split
     ·rename_i xs hxs
      generalize hv:a.eval x=v at hp
      rcases (zht hh hxs).2 with⟨hn,rfl⟩|⟨r,cur,T,h1,h2⟩
      ·cases hp with
       |own0 _ ad _=>exact main b0 [] 0 0 ad 0 hxs hv (.inl rfl)
       |own _ r hr=>rw[hn]at hr;cases hr
       |ownD _ _ hd _=>rw[hn]at hd;cases hd
      ·cases hp with
       |own0 _ ad hd=>rw[h1]at hd;cases hd
       |ownD _ _ hd _=>rw[h1]at hd;cases hd
       |own _ r' hr'=>
        rw[h1]at hr'
        cases hr'
        rw[zaE h2.esz,h2.len]at hv
        exact main b0 xs 0 xs.length _ _ hxs hv (.inr ⟨r,cur,T,h1,h2,by simp,by omega⟩)
     ·trivial
    ·rename_i b0 oo n
     split
     ·rename_i xs hxs
      generalize hv:a.eval x=v at hp
      rcases (zht hh hxs).2 with⟨hn,rfl⟩|⟨r,cur,T,h1,h2⟩
      ·cases hp with
       |view0 _ _ ad _=>exact main b0 [] oo 0 ad 0 hxs hv (.inl rfl)
       |view _ _ _ c r hr=>rw[hn]at hr;cases hr
       |viewD _ _ _ _ hd _=>rw[hn]at hd;cases hd
      ·cases hp with
       |viewD _ _ _ _ hd _=>rw[h1]at hd;cases hd
       |view0 _ _ ad _=>exact main b0 xs oo 0 ad 0 hxs hv (.inl rfl)
       |view _ _ _ c r' hr' hc1 hc2 hc3=>
        rw[h1]at hr'
        cases hr'
        exact main b0 xs oo n _ c hxs hv (.inr ⟨r,cur,T,h1,h2,by rw[h2.esz],by have:=h2.len;omega⟩)
     ·trivial
    ·trivial
   ·trivial
  ·trivial
 ·trivial
end
section
variable {X:Ctx} {N:zm} {S:Nat->Prop} {w:World}
theorem zdw (z:Array Value) (n i:Nat) (h:i<n*z.size):(Builtin.zeroCells z n)[i]? = z[i % z.size]?:=by
 have h0:0<z.size:=by
  rcases Nat.eq_zero_or_pos z.size with e|e
  ·rw[e]at h;simp at h
  ·exact e
 have h1:i % z.size<z.size:=Nat.mod_lt _ h0
 simp[Builtin.zeroCells,h,h1]
theorem zii {O:Nat->Prop} {k:EK} {zv:k.T} {z:Array Value} (hz:z.size=k.size) (hr:RepL O w (k.enc zv) z.toList) (n:Nat):RepL O w ((List.replicate n zv).flatMap k.enc) (Builtin.zeroCells z n).toList:=by
 refine⟨by rw[za1];simp[size_zeroCells,hz],fun i x v hx hv=>?_⟩
 have hi:i<n*k.size:=by
  rcases Nat.lt_or_ge i (n*k.size) with h|h
  ·exact h
  ·rw[List.getElem?_eq_none (by rw[za1];simpa using h)]at hx;cases hx
 have hp:=k.pos
 have hv' : (Builtin.zeroCells z n)[i]? = some v:=by simpa using hv
 rw[zdw z n i (by rw[hz];exact hi),hz]at hv'
 have e:i=(i / k.size)*k.size+i % k.size:=by rw[Nat.mul_comm];exact(Nat.div_add_mod i k.size).symm
 have hq:i / k.size<n:=Nat.div_lt_of_lt_mul (by rw[Nat.mul_comm];exact hi)
 rw[e,ziM k _ (i / k.size) (i % k.size) (by simpa using hq) (Nat.mod_lt _ hp)]at hx
 have:(List.replicate n zv).getD (i / k.size) default=zv:=by simp[List.getD,hq]
 rw[this]at hx
 exact hr.2 _ x v hx (by simpa using hv')
theorem zlW {P:Program} {a:Act} {o:Oper} {x:Operand} {t:Nat} (ho:o.op = .call {callee:=.builtin .clear,args:=#[x],argTypes:=#[t]}) :
  (execOp a.eval o).run P w=((Builtin.clear_ #[t] o.type #[a.eval x]).run P w).andThen fun v w'=>.ok (.value v) w':=by
 unfold execOp;rw[ho]
 simp[resolve,invoke,builtin]
theorem zm4 {P:Program} {t ty e:TypeId} (h1:P.underlying t=some (.slice e)) (s:Option Addr) (c:Nat):(Builtin.clear_ #[t] ty #[.slice s 0 c]).run P w = .ok (.tuple #[]) w:=by
 cases s<;>simp[Builtin.clear_,run_underlying h1]
theorem zu3 {P:Program} {t ty e:TypeId} (h1:P.underlying t=some (.slice e)) {i:TypeInfo} (hi:P.info? e=some i) {z:Value} (hz:i.zero=some z) (ad:Addr) (n c:Nat) (hn:n≠0) :
  (Builtin.clear_ #[t] ty #[.slice (some ad) n c]).run P w=((storeCells ad (Builtin.zeroCells z.cells n).toList).run P w).andThen fun _ w'=>.ok (.tuple #[]) w':=by
 cases n with
 |zero=>exact absurd rfl hn
 |succ n=>simp[Builtin.clear_,run_underlying h1,zeroValue,typeInfo,hi,hz]
theorem zo1 (hX:XOk X) (hnr:NR N S w) {h:zg} (hh:HR N S w h) {a:Act} {o:Oper} {x:Operand} {t:Nat} (ho:o.op = .call {callee:=.builtin .clear,args:=#[x],argTypes:=#[t]})
  {p:TV} (hp:RepT N S w p (a.eval x)):(zsK X h t p).Sound X.P N S w (execOp a.eval o):=by
 have hcall:=zlW (P:=X.P) (w:=w) (a:=a) ho
 have htup:∀N' w',RepT N' S w' (.tup []) (.tuple #[]):=fun N' w'=>.tup [] #[] rfl (by simp)
 unfold zsK
 split
 ·rename_i e x' hk
  have hut:=zaX hX hk
  split
  ·rename_i k hek
   have hok:(X.ty e).ok=true:=by
    cases hok:(X.ty e).ok with
    |true=>rfl
    |false=>have:=(hX.kind e hok).2.2;rw[hek]at this;cases this
   obtain⟨hks,hby⟩:=(hX.ty e hok).ek k hek
   obtain⟨j,z,hj,hjz,hjs,hzs,hzr⟩:=zcm (N:=N) (S:=S) (w:=w) (hX.ty e hok)
   split
   ·rename_i zv hfit
    have hze:=zf8 hfit hzr
    have hzc:z.cells.size=k.size:=by omega
    cases hp with|c _ _ hp=>
    have main:∀(b0:Nat) (xs:List k.T) (oo n:Nat) (s0:Option Addr) (c0:Nat),zez h k (.own b0)=some xs->a.eval x = .slice s0 n c0 ->
      (n=0\/∃r cur T,N b0 = .live r/\RowOf N S w k xs r cur T/\s0=some ⟨r.blk,oo*k.size,none⟩/\oo+n<=xs.length) ->
      zcQ X.P N S w (execOp a.eval o) (.tup []) [(b0,.data k (zK xs oo (List.replicate n zv)))]:=by
     intro b0 xs oo n s0 c0 hx hv hcase
     by_cases h0:n=0
     ·subst h0
      rw[hv,zm4 hut]at hcall
      rw[List.replicate_zero,zlJ]
      exact⟨_,w,N,.inl hcall,htup _ _,znR hnr hh (znA hx)⟩
     ·rcases hcase with h1|⟨r,cur,T,h1,h2,h3,h4⟩
      ·exact absurd h1 h0
      ·subst h3
       obtain⟨w',hst,hstep⟩:=znu (P:=X.P) hnr h1 h2 (zht hh hx).1 oo (List.replicate n zv) _ (zii hzc hze n) (by simpa using h4)
       rw[hv,zu3 hut hj hjz _ n c0 h0,hst]at hcall
       exact⟨_,w',N,.inl hcall,htup _ _,hstep⟩
    split
    ·rename_i b0
     split
     ·rename_i xs hxs
      generalize hv:a.eval x=v at hp
      have hsp:zK xs 0 (List.replicate xs.length zv)=List.replicate xs.length zv:=by simp[zK]
      rcases (zht hh hxs).2 with⟨hn,rfl⟩|⟨r,cur,T,h1,h2⟩
      ·cases hp with
       |own0 _ ad _=>have:=main b0 [] 0 0 ad 0 hxs hv (.inl rfl);exact this
       |own _ r hr=>rw[hn]at hr;cases hr
       |ownD _ _ hd _=>rw[hn]at hd;cases hd
      ·cases hp with
       |own0 _ ad hd=>rw[h1]at hd;cases hd
       |ownD _ _ hd _=>rw[h1]at hd;cases hd
       |own _ r' hr'=>
        rw[h1]at hr'
        cases hr'
        rw[zaE h2.esz,h2.len]at hv
        have:=main b0 xs 0 xs.length _ _ hxs hv (.inr ⟨r,cur,T,h1,h2,by simp,by omega⟩)
        rw[hsp]at this
        exact this
     ·trivial
    ·rename_i b0 oo n
     split
     ·rename_i xs hxs
      generalize hv:a.eval x=v at hp
      rcases (zht hh hxs).2 with⟨hn,rfl⟩|⟨r,cur,T,h1,h2⟩
      ·cases hp with
       |view0 _ _ ad _=>exact main b0 [] oo 0 ad 0 hxs hv (.inl rfl)
       |view _ _ _ c r hr=>rw[hn]at hr;cases hr
       |viewD _ _ _ _ hd _=>rw[hn]at hd;cases hd
      ·cases hp with
       |viewD _ _ _ _ hd _=>rw[h1]at hd;cases hd
       |view0 _ _ ad _=>exact main b0 xs oo 0 ad 0 hxs hv (.inl rfl)
       |view _ _ _ c r' hr' hc1 hc2 hc3=>
        rw[h1]at hr'
        cases hr'
        exact main b0 xs oo n _ c hxs hv (.inr ⟨r,cur,T,h1,h2,by rw[h2.esz],by have:=h2.len;omega⟩)
     ·trivial
    ·trivial
   ·trivial
  ·trivial
 ·trivial
theorem zwc {P:Program} {t e:TypeId} (h1:P.underlying t=some (.slice e)) {i:TypeInfo} (hi:P.info? e=some i) {z:Value} (hz:i.zero=some z) (hs:z.cells.size=i.size) (h0:0<i.size) {k1 k2:IntKind} (l c:Int) (hl:0<=l) (hlc:l<=c) (hc:c<=68719476736) (hb:i.bytes<=1024) :
  (Instr.makeSlice t (.int k1 l) (.int k2 c)).run P w = .ok (.slice (some ⟨w.heap.size,0,none⟩) l.toNat c.toNat) (w.alloc (.cells (Builtin.zeroCells z.cells c.toNat) e)):=by
 have w1:IntKind.i64.wrap l=l:=IntWalk.i64_in l (by omega)
 have w2:IntKind.i64.wrap c=c:=IntWalk.i64_in c (by omega)
 have hbc:(i.bytes:Int)*c<=1024*68719476736:=Int.mul_le_mul (by omega) hc (by omega) (by omega)
 have hbl:(i.bytes:Int)*l<=1024*68719476736:=Int.mul_le_mul (by omega) (by omega) hl (by omega)
 have t1:¬(281474976710656<(i.bytes:Int)*c):=by omega
 have t2:¬(281474976710656<(i.bytes:Int)*l):=by omega
 have n1:¬c<0:=by omega
 have n2:¬l<0:=by omega
 have n3:¬c<l:=by omega
 by_cases hz0:c.toNat=0
 ·have:Builtin.zeroCells z.cells 0 = #[]:=by simp[Builtin.zeroCells]
  simp[Instr.makeSlice,run_underlying h1,asInt,asIntOf,typeInfo,hi,w1,w2,t1,n1,n2,n3,sizeOf,hz0,this,newRow]
  have e0:(Array.range 0).map (fun _=>(default:Value)) = #[]:=by simp[Array.range_zero']
  rw[e0]
 ·have hne:¬(c.toNat*i.size=0):=by
   intro h
   rcases Nat.mul_eq_zero.1 h with h|h
   ·exact hz0 h
   ·omega
  have e:(Array.range (c.toNat*i.size)).map (fun x=>z.cells[x % z.cells.size]!)=Builtin.zeroCells z.cells c.toNat:=by
   unfold Builtin.zeroCells
   rw[hs]
  simp[Instr.makeSlice,run_underlying h1,asInt,asIntOf,typeInfo,hi,hz,w1,w2,t1,n1,n2,n3,sizeOf,hne,zeroValue,newRow]
  rw[e]
theorem zqe (hX:XOk X) (hnr:NR N S w) {base:Nat} (hf:N base = .unused) {a:Act} {o:Oper} {t:Nat} {x y:Operand} (ho:o.op = .makeSlice t x y) {p q:TV} (hp:RepT N S w p (a.eval x)) (hq:RepT N S w q (a.eval y)) :
  (zvD X base t p q).Sound X.P N S w (execOp a.eval o):=by
 unfold zvD
 split
 ·rename_i e l c hk
  have hut:=zaX hX hk
  split
  ·rename_i k hek
   have hok:(X.ty e).ok=true:=by
    cases hok:(X.ty e).ok with
    |true=>rfl
    |false=>have:=(hX.kind e hok).2.2;rw[hek]at this;cases this
   obtain⟨hks,hby⟩:=(hX.ty e hok).ek k hek
   obtain⟨j,z,hj,hjz,hjs,hzs,hzr⟩:=zcm (N:=N) (S:=S) (w:=w) (hX.ty e hok)
   obtain⟨j',_,hj',_,hjb,_⟩:=(hX.ty e hok).info
   rw[hj]at hj'
   cases hj'
   split
   ·rename_i zv hfit
    have hze:=zf8 hfit hzr
    have hzc:z.cells.size=k.size:=by omega
    rintro⟨h0,h1,h2⟩
    simp only[zk]at h2
    have hrun:=zwc (P:=X.P) (w:=w) hut hj hjz (by omega) (by have:=k.pos;omega) (k1:=.i64) (k2:=.i64) l c h0 h1 (by omega) (by omega)
    have hall:=zii (O:=OO N S) (w:=w) hzc hze c.toNat
    have hlen:(List.replicate l.toNat zv).length=l.toNat:=List.length_replicate
    have htk:RepL (OO N S) w ((List.replicate l.toNat zv).flatMap k.enc) ((Builtin.zeroCells z.cells c.toNat).toList.take ((List.replicate l.toNat zv).length*k.size)):=by
     have:=zbK (l.toNat*k.size) hall
     rw[←zbe,List.take_replicate]at this
     have e:min l.toNat c.toNat=l.toNat:=by omega
     rw[e]at this
     rw[hlen]
     exact this
    obtain⟨e1,e2⟩:=zh4 (l:=List.replicate l.toNat zv) hnr hf c.toNat (vs:=Builtin.zeroCells z.cells c.toNat) e (w1:=w) (WExt.refl _ _) rfl (by rw[hlen];omega) (by rw[hlen];simp only[zE];omega) (by rw[size_zeroCells,hzc];exact Nat.le_refl _) htk
    refine⟨_,_,_,.inl ?_,e1,e2⟩
    rw[hlen]
    unfold execOp;rw[ho];refine zdR ?_
    rw[zI hp,zI hq]
    exact hrun
   ·trivial
  ·trivial
 ·trivial
theorem zod {P:Program} {a:Act} {o:Oper} {x:Operand} {t:Nat} (ho:o.op = .call {callee:=.builtin .len,args:=#[x],argTypes:=#[t]}) :
  (execOp a.eval o).run P w=((Builtin.len_ #[t] o.type #[a.eval x]).run P w).andThen fun v w'=>.ok (.value v) w':=by
 unfold execOp;rw[ho]
 simp[resolve,invoke,builtin]
theorem zsO (hX:XOk X) (hnr:NR N S w) {h:zg} (hh:HR N S w h) {a:Act} {o:Oper} {x:Operand} {t:Nat} (ho:o.op = .call {callee:=.builtin .len,args:=#[x],argTypes:=#[t]})
  {p:TV} (hp:RepT N S w p (a.eval x)):(zy5 X h t p).Sound X.P N S w (execOp a.eval o):=by
 have hcall:=zod (P:=X.P) (w:=w) (a:=a) ho
 have slcRun:∀ {e:Nat} (s:Option Addr) (n c:Nat),X.P.underlying t=some (.slice e)->(Builtin.len_ #[t] o.type #[.slice s n c]).run X.P w = .ok (goInt n) w:=by
  intro e s n c h
  simp[Builtin.len_,run_underlying h]
 have arrRun:∀ {n e:Nat} (v:Value),X.P.underlying t=some (.array n e)->(Builtin.len_ #[t] o.type #[v]).run X.P w = .ok (goInt n) w:=by
  intro n e v h
  simp[Builtin.len_,run_underlying h]
 unfold zy5
 split
 ·rename_i n e _ hk
  rw[arrRun _ (zhx hX hk)]at hcall
  exact zj hnr hcall (zV rfl)
 ·rename_i e hk
  rw[zI hp,slcRun none 0 0 (zaX hX hk)]at hcall
  exact zj hnr hcall (zV rfl)
 ·rename_i e k l hk
  generalize hv:a.eval x=v at hp hcall
  cases zdK hp with
  |slnil _ s c=>
   rw[slcRun s 0 c (zaX hX hk)]at hcall
   exact zj hnr hcall (zV rfl)
  |sl _ _ ad c vs _ _ _ _ _ _ _=>
   rw[slcRun _ l.length c (zaX hX hk)]at hcall
   exact zj hnr hcall (zV rfl)
 ·rename_i e b oo n hk
  split
  ·rename_i k l hb
   have hbr:=(hh b _ hb).2
   generalize hv:a.eval x=v at hp hcall
   cases hp with|c _ _ hp=>
   cases hp with
   |view0 _ _ s _=>rw[slcRun s 0 0 (zaX hX hk)]at hcall;exact zj hnr hcall (zV rfl)
   |view _ _ _ c r _ _ _ _=>rw[slcRun _ n c (zaX hX hk)]at hcall;exact zj hnr hcall (zV rfl)
   |viewD _ _ _ _ hd _=>
    rcases hbr with⟨hn,_⟩|⟨r,_,_,h1,_⟩
    ·rw[hn]at hd;cases hd
    ·rw[h1]at hd;cases hd
  ·trivial
 ·rename_i e b hk
  split
  ·rename_i k l hb
   have hbr:=(hh b _ hb).2
   generalize hv:a.eval x=v at hp hcall
   cases hp with|c _ _ hp=>
   rcases hbr with⟨hn,rfl⟩|⟨r,_,_,h1,h2,h3,_⟩
   ·cases hp with
    |own0 _ s _=>rw[slcRun s 0 0 (zaX hX hk)]at hcall;exact zj hnr hcall (zV rfl)
    |own _ r hr=>rw[hn]at hr;cases hr
    |ownD _ _ hd _=>rw[hn]at hd;cases hd
   ·cases hp with
    |own0 _ s hd=>rw[h1]at hd;cases hd
    |ownD _ _ hd _=>rw[h1]at hd;cases hd
    |own _ r' hr=>
     rw[h1]at hr
     cases hr
     rw[zaE h2,slcRun _ _ _ (zaX hX hk),h3]at hcall
     exact zj hnr hcall (zV rfl)
  ·trivial
 ·trivial
end
section
variable {X:Ctx} {N:zm} {S:Nat->Prop} {w:World}
theorem zuB (vs:List Value) (off:Nat):∀(cs:Array Value) (s:Nat),off+s+vs.length<=cs.size->((vs.zipIdx s).foldl (fun cs (x:Value×Nat)=>cs.setIfInBounds (off+x.2) x.1) cs).toList=cs.toList.take (off+s)++vs++cs.toList.drop (off+s+vs.length):=by
 induction vs with
 |nil=>intro cs s h;simp
 |cons v r ih=>
  intro cs s h
  simp only[List.zipIdx_cons,List.foldl_cons]
  rw[ih _ (s+1) (by simp at h ⊢;omega)]
  simp only[Array.toList_setIfInBounds]
  have:=list_seg_step cs.toList (off+s) v r (by simp at h ⊢;omega)
  rw[show off+(s+1)=off+s+1 from by omega]
  simpa using this
theorem zjr {place:Nat->Option (Nat×Nat)} {placeA:Nat->Option (Nat×Nat)}:∀ {ps:List (Nat×TV)} {vs:List (Nat×Value)} {zc:List CV} {zv:Array Value} {cs:List CV},
  zhN placeA zc ps=some cs->RepCL N S w zc zv.toList->ps.length=vs.length->(∀(i:Nat) (p:Nat×TV) (v:Nat×Value),ps[i]? = some p->vs[i]? = some v->p.1=v.1/\RepT N S w p.2 v.2)->(∀i q,placeA i=some q->place i=some q) ->
  ∃cells,Instr.fill place zv vs=some cells/\RepCL N S w cs cells.toList
 |[],[],zc,zv,cs,h,hz,_,_,_=>by
  simp only[zhN,Option.some.injEq]at h
  subst h
  exact⟨zv,rfl,hz⟩
 |[],_::_,_,_,_,_,_,hl,_,_=>by simp at hl
 |_::_,[],_,_,_,_,_,hl,_,_=>by simp at hl
 |(i,tv)::ps,(j,v)::vs,zc,zv,cs,h,hz,hl,hr,hp=>by
  have h0:=hr 0 (i,tv) (j,v) rfl rfl
  have hij:i=j:=h0.1
  subst hij
  simp only[zhN]at h
  split at h
  ·rename_i off sz us hpl hcs
   cases hc:(Nat.beq us.length sz&&Nat.ble (off+sz) zc.length) with
   |false=>rw[hc]at h;cases h
   |true=>
    rw[hc]at h
    simp only[Bool.and_eq_true]at hc
    have e1:=Nat.eq_of_beq_eq_true hc.1
    have e2:=Nat.le_of_ble_eq_true hc.2
    have hus:=zj1 h0.2 hcs
    have hvs:v.cells.size=sz:=by rw[←e1,hus.1];simp
    have hzl:zc.length=zv.size:=by simpa using hz.1
    have hle:off+v.cells.size<=zv.size:=by omega
    have hset:((v.cells.zipIdx.foldl (fun cs (x:Value×Nat)=>cs.setIfInBounds (off+x.2) x.1) zv)).toList=zv.toList.take off++v.cells.toList++zv.toList.drop (off+v.cells.toList.length):=by
     rw[←Array.foldl_toList,Array.toList_zipIdx]
     have:=zuB v.cells.toList off zv 0 (by simpa using hle)
     simpa using this
    have hz' : RepCL N S w (zK zc off us) ((v.cells.zipIdx.foldl (fun cs (x:Value×Nat)=>cs.setIfInBounds (off+x.2) x.1) zv)).toList:=by
     rw[hset]
     exact zf6 hz hus off
    obtain⟨cells,hf,hrep⟩:=zjr h hz' (by simpa using hl) (fun n p q hp' hq'=>hr (n+1) p q (by simpa using hp') (by simpa using hq')) hp
    refine⟨cells,?_,hrep⟩
    simp only[Instr.fill,hp i _ hpl]
    rw[if_neg (by simp[hvs];omega)]
    exact hf
  ·cases h
theorem znz {lk:Nat->TV} {a:Act} (hρ:∀x,RepT N S w (X.opd lk x) (a.eval x)) (ps:Array (Nat×Operand)) :
  (ps.toList.map fun(i,x)=>(i,X.opd lk x)).length=((ps.map fun(i,x)=>(i,a.eval x)).toList).length /\
  ∀(i:Nat) (p:Nat×TV) (v:Nat×Value),(ps.toList.map fun(i,x)=>(i,X.opd lk x))[i]? = some p->((ps.map fun(i,x)=>(i,a.eval x)).toList)[i]? = some v->p.1=v.1/\RepT N S w p.2 v.2:=by
 refine⟨by simp,fun i p v hp hv=>?_⟩
 simp only[List.getElem?_map,Option.map_eq_some_iff,Array.toList_map]at hp hv
 obtain⟨q,hq,rfl⟩:=hp
 obtain⟨q',hq',rfl⟩:=hv
 rw[hq]at hq'
 cases hq'
 exact⟨rfl,hρ _⟩
theorem zlB (hX:XOk X):∀(fs:List Field),(∀f∈fs,(X.ty f.type).ok=true) ->
  (fs.mapM (fun f=>do pure (f.offset,←sizeOf f.type):Field->Sem (Nat×Nat))).run X.P w = .ok (fs.map fun f=>(f.offset,(X.ty f.type).size)) w
 |[],_=>by simp
 |f::r,h=>by
  have ih:=zlB hX r (fun g hg=>h g (by simp[hg]))
  rw[List.mapM_cons]
  simp only[Sem.run_bind,zbt hX (h f (by simp)),Result.andThen_ok,Sem.run_pure,ih,List.map_cons]
theorem zoC (hX:XOk X) (hnr:NR N S w) {lk:Nat->TV} {a:Act} (hρ:∀x,RepT N S w (X.opd lk x) (a.eval x)) {o:Oper} {t:Nat} {ps:Array (Nat×Operand)} (ho:o.op = .build t ps) :
  (zs5 X t (ps.toList.map fun(i,x)=>(i,X.opd lk x))).Sound X.P N S w (execOp a.eval o):=by
 obtain⟨hpl,hpr⟩:=znz (X:=X) hρ ps
 have hexec:∀v,(Instr.build t (ps.map fun(i,x)=>(i,a.eval x))).run X.P w = .ok v w->(execOp a.eval o).run X.P w = .ok (.value v) w:=by
  intro v h;unfold execOp;rw[ho];exact zdR h
 unfold zs5
 simp only
 split
 ·rename_i fs hk
  cases hc:(!(X.ty t).ok || !(fs.all fun f=>(X.ty f.2).ok)) with
  |true=>trivial
  |false=>
   simp only[Bool.or_eq_false_iff,Bool.not_eq_false']at hc
   simp only[cond_false]
   split
   ·rename_i cs hf
    obtain⟨g,hg,hgf⟩:=zj3 hX hk
    obtain⟨j,z,hj,hjz,hjs,hzs,hzr⟩:=zcm (N:=N) (S:=S) (w:=w) (hX.ty t hc.1)
    have hall:∀f∈g.toList,(X.ty f.type).ok=true:=by
     intro f hf'
     have:=List.all_eq_true.1 hc.2 (f.offset,f.type) (by rw[←hgf];exact List.mem_map.2 ⟨f,hf',rfl⟩)
     exact this
    have hplaces:=zlB (w:=w) hX g.toList hall
    obtain⟨cells,hfill,hrep⟩:=zjr (place:=((g.toList.map fun f=>(f.offset,(X.ty f.type).size)).toArray[·]?)) hf hzr hpl hpr (by
     intro i q hq
     simp only[zcg,Option.map_eq_some_iff]at hq
     obtain⟨p,hp,rfl⟩:=hq
     rw[←hgf]at hp
     simp only[List.getElem?_map,Option.map_eq_some_iff]at hp
     obtain⟨f,hf',rfl⟩:=hp
     simp[hf'])
    refine zj hnr (hexec (.agg cells) ?_) (.agg _ _ hrep)
    have hmm:(g.mapM (fun f=>do pure (f.offset,←sizeOf f.type):Field->Sem (Nat×Nat))).run X.P w = .ok (g.toList.map fun f=>(f.offset,(X.ty f.type).size)).toArray w:=by
     rw[Array.mapM_eq_mapM_toList]
     simp only[Sem.run_map,hplaces,Result.andThen_ok]
    simp only[Instr.build,Sem.run_bind,zeroValue,typeInfo,run_program,Result.andThen_ok,hj,Sem.run_pure,hjz,run_underlying hg,hmm,hfill]
   ·trivial
 ·rename_i n e hk
  cases hc:(!(X.ty t).ok || !(X.ty e).ok) with
  |true=>trivial
  |false=>
   simp only[Bool.or_eq_false_iff,Bool.not_eq_false']at hc
   simp only[cond_false]
   split
   ·rename_i cs hf
    have hg:=zhx hX hk
    obtain⟨j,z,hj,hjz,hjs,hzs,hzr⟩:=zcm (N:=N) (S:=S) (w:=w) (hX.ty t hc.1)
    obtain⟨cells,hfill,hrep⟩:=zjr (place:=fun i=>some (i*(X.ty e).size,(X.ty e).size)) hf hzr hpl hpr (fun i q hq=>hq)
    refine zj hnr (hexec (.agg cells) ?_) (.agg _ _ hrep)
    simp only[Instr.build,Sem.run_bind,zeroValue,typeInfo,run_program,Result.andThen_ok,hj,Sem.run_pure,hjz,run_underlying hg,zbt hX hc.2,hfill]
   ·trivial
 ·trivial
theorem zqp {zc:List CV} {z:Array Value} (h:RepCL N S w zc z.toList):∀n,RepCL N S w (zsf zc n) (Builtin.zeroCells z n).toList
 |0=>by
  have e:(Builtin.zeroCells z 0).toList=[]:=by simp[Builtin.zeroCells]
  rw[e]
  exact⟨rfl,fun i x v hx=>by simp[zsf]at hx⟩
 |n+1=>by
  have ih:=zqp h n
  have e:(Builtin.zeroCells z (n+1)).toList=z.toList++(Builtin.zeroCells z n).toList:=by
   apply List.ext_getElem?
   intro i
   rw[List.getElem?_append]
   have hs:(n+1)*z.size=z.size+n*z.size:=by rw[Nat.add_mul];omega
   by_cases h1:i<z.size
   ·simp only[Array.length_toList,h1,if_true,Array.getElem?_toList]
    rw[zdw z (n+1) i (by omega),Nat.mod_eq_of_lt h1]
   ·simp only[Array.length_toList,h1,if_false,Array.getElem?_toList]
    by_cases h2:i<(n+1)*z.size
    ·rw[zdw z (n+1) i h2,zdw z n (i-z.size) (by omega)]
     congr 1
     rw[Nat.mod_eq_sub_mod (by omega)]
    ·rw[Array.getElem?_eq_none (by rw[size_zeroCells];omega),Array.getElem?_eq_none (by rw[size_zeroCells];omega)]
  rw[e]
  exact zfX h ih
theorem zkL (z:List CV):∀n,(zsf z n).length=n*z.length
 |0=>by simp[zsf]
 |n+1=>by simp[zsf,zkL z n,Nat.add_mul];omega
theorem ziP {place:Nat->Option (Nat×Nat)}:∀ {ps:List (Nat×TV)} {z cs:List CV},zhN place z ps=some cs->cs.length=z.length
 |[],z,cs,h=>by simp only[zhN,Option.some.injEq]at h;rw[h]
 |(i,v)::r,z,cs,h=>by
  simp only[zhN]at h
  split at h
  ·rename_i off sz vs hp hv
   cases hc:(Nat.beq vs.length sz&&Nat.ble (off+sz) z.length) with
   |false=>rw[hc]at h;cases h
   |true=>
    rw[hc]at h
    simp only[Bool.and_eq_true]at hc
    have e1:=Nat.eq_of_beq_eq_true hc.1
    have e2:=Nat.le_of_ble_eq_true hc.2
    rw[ziP h,zdy z off vs (by omega)]
  ·cases h
theorem zjs (hX:XOk X) (hnr:NR N S w) {base:Nat} (hf0:N base = .unused) {lk:Nat->TV} {a:Act} (hρ:∀x,RepT N S w (X.opd lk x) (a.eval x)) {o:Oper} {t n:Nat} {ps:Array (Nat×Operand)} (ho:o.op = .buildSlice t n ps) :
  (zdN X base t n (ps.toList.map fun(i,x)=>(i,X.opd lk x))).Sound X.P N S w (execOp a.eval o):=by
 obtain⟨hpl,hpr⟩:=znz (X:=X) hρ ps
 unfold zdN
 split
 ·rename_i e hk
  simp only
  split
  ·rename_i k cs hek hf
   cases hc:(!(Nat.ble (n*(X.ty e).size) 16777216) || !(Nat.ble n zk)) with
   |true=>trivial
   |false=>
    simp only[Bool.or_eq_false_iff,Bool.not_eq_false']at hc
    have hle:=Nat.le_of_ble_eq_true hc.1
    have hle2:=Nat.le_of_ble_eq_true hc.2
    simp only[cond_false]
    split
    ·rename_i l hfit
     have hut:=zaX hX hk
     have hok:(X.ty e).ok=true:=by
      cases hok:(X.ty e).ok with
      |true=>rfl
      |false=>have:=(hX.kind e hok).2.2;rw[hek]at this;cases this
     obtain⟨hks,hby⟩:=(hX.ty e hok).ek k hek
     obtain⟨j,z,hj,hjz,hjs,hzs,hzr⟩:=zcm (N:=N) (S:=S) (w:=w) (hX.ty e hok)
     have hzl:((X.ty e).zero.map CV.d).length=(X.ty e).size:=by rw[hzr.1];simpa using hzs
     obtain⟨cells,hfill,hrep⟩:=zjr (place:=fun i=>some (i*(X.ty e).size,(X.ty e).size)) hf (zqp hzr n) hpl hpr (fun i q hq=>hq)
     have hcl:cs.length=n*(X.ty e).size:=by rw[ziP hf,zkL,hzl]
     obtain⟨hfr,hln⟩:=zf0 hfit hrep hcl
     have hcs:cells.size=n*(X.ty e).size:=by rw[←hcl,hrep.1];simp
     have htk:RepL (OO N S) w (l.flatMap k.enc) (cells.toList.take (l.length*k.size)):=by
      rw[hln,hks,←hcs,←Array.length_toList,List.take_length]
      exact hfr
     obtain⟨e1,e2⟩:=zh4 (l:=l) hnr hf0 n (vs:=cells) e (w1:=w) (WExt.refl _ _) rfl (by omega) (by simp only[zk,zE]at *;omega) (by rw[hcs,hks];exact Nat.le_refl _) htk
     refine⟨_,_,_,.inl ?_,e1,e2⟩
     rw[hln]
     unfold execOp;rw[ho];refine zdR ?_
     have hb1:¬(n*j.size>2 ^ 24):=by rw[hjs];omega
     have hzz:(Array.range (n*j.size)).map (fun x=>z.cells[x % z.cells.size]!)=Builtin.zeroCells z.cells n:=by unfold Builtin.zeroCells;rw[hzs,hjs]
     rw[←hjs]at hfill
     by_cases h0:n*j.size=0
     ·have e0:Builtin.zeroCells z.cells n = #[]:=by rw[←hzz,h0];simp[Array.range_zero']
      rw[e0]at hfill
      have e1:(Array.range 0).map (fun _=>(default:Value)) = #[]:=by simp[Array.range_zero']
      simp[Instr.buildSlice,run_underlying hut,sizeOf,typeInfo,hj,h0,newRow]
      have hf' : Instr.fill (fun i=>some (i*j.size,j.size)) #[] (List.map (fun x=>(x.fst,a.eval x.snd)) ps.toList)=some cells:=by rw[Array.toList_map]at hfill;exact hfill
      rw[e1,hf']
      simp
     ·rw[←hzz]at hfill
      have hf' : Instr.fill (fun i=>some (i*j.size,j.size)) ((Array.range (n*j.size)).map (fun x=>z.cells[x % z.cells.size]!)) (List.map (fun x=>(x.fst,a.eval x.snd)) ps.toList)=some cells:=by rw[Array.toList_map]at hfill;exact hfill
      simp[Instr.buildSlice,run_underlying hut,sizeOf,typeInfo,zeroValue,hj,hjz,hb1,h0,newRow]
      rw[hf']
      simp
    ·trivial
  ·trivial
 ·trivial
end
section
variable {X:Ctx} {N:zm} {S:Nat->Prop} {w:World}
theorem znL (hX:XOk X) {t e:Nat} (hk:(X.ty t).k = .slc e) (he:(X.ty e).ok=true) {k:EK} (hks:k.size=(X.ty e).size) {b:Nat} {r:RL} (hb:N b = .live r) (hesz:r.esz=k.size) {oo n c:Nat} (h1:oo+c<=r.cap) (h2:n<=c) (h3:oo+n<=r.len)
  {a:Act} {lo hi mx:Option Operand} {li hiI mi:Option Int} (q1:zhH a lo li) (q2:zhH a hi hiI) (q3:zhH a mx mi) (hob:∀q,zkB n li hiI mi=some q->q) :
  ∃u,(Instr.sliceAt t (.slice (some ⟨r.blk,oo*r.esz,none⟩) n c) (lo.map a.eval) (hi.map a.eval) (mx.map a.eval)).run X.P w = .ok u w /\
   RepC N S w (.view b (oo+(li.getD 0).toNat) ((hiI.getD n)-li.getD 0).toNat) u:=by
 obtain⟨p0,p1,pn,p2,p3,p4⟩:=ziL h2 hob
 refine⟨_,zch hX hk he q1 q2 q3 p0 p1 p2 p3 p4,?_⟩
 have e1:((hiI.getD (n:Int))-li.getD 0).toNat=(hiI.getD (n:Int)).toNat-(li.getD 0).toNat:=by omega
 rw[e1]
 by_cases hm:(mi.getD (c:Int)).toNat=(li.getD 0).toNat
 ·have e2:(hiI.getD (n:Int)).toNat-(li.getD 0).toNat=0:=by omega
  have e3:(mi.getD (c:Int)).toNat-(li.getD 0).toNat=0:=by omega
  rw[e2,e3]
  exact .view0 b _ _ (by rw[hb];simp)
 ·rw[if_neg hm,Option.map_some,zeS,←hks,←hesz,←Nat.add_mul]
  exact .view b _ _ _ r hb (by omega) (by omega) (by omega)
theorem zgQ (hX:XOk X) {t e:Nat} (hk:(X.ty t).k = .slc e) (he:(X.ty e).ok=true) {s:Option Addr} {cc:Nat}
  {a:Act} {lo hi mx:Option Operand} {li hiI mi:Option Int} (q1:zhH a lo li) (q2:zhH a hi hiI) (q3:zhH a mx mi) (hob:∀q,zkB 0 li hiI mi=some q->q) (hcc:cc=0) :
  ∃s',(Instr.sliceAt t (.slice s 0 cc) (lo.map a.eval) (hi.map a.eval) (mx.map a.eval)).run X.P w = .ok (.slice s' 0 0) w/\(s=none->s' = none)/\((hiI.getD (0:Nat))-li.getD 0).toNat=0:=by
 subst hcc
 obtain⟨p0,p1,pn,p2,p3,p4⟩:=ziL (n:=0) (cap:=0) (Nat.le_refl _) hob
 have e1:(hiI.getD ((0:Nat):Int)).toNat-(li.getD 0).toNat=0:=by omega
 have e2:(mi.getD ((0:Nat):Int)).toNat-(li.getD 0).toNat=0:=by omega
 have hm:(mi.getD ((0:Nat):Int)).toNat=(li.getD 0).toNat:=by omega
 have:=zch (w:=w) (base:=s) hX hk he q1 q2 q3 p0 p1 p2 p3 p4
 rw[e1,e2,if_pos hm]at this
 exact⟨s,this,fun h=>h,by omega⟩
theorem zgo {P:Program} {t n e:Nat} (h:P.underlying t=some (.array n e)) {i:TypeInfo} (hi:P.info? e=some i) (ad:Addr):(Instr.sliceAt t (.pointer (some ad)) none none none).run P w = .ok (.slice (some (if n=0 then ad else ad.add (0*i.size))) n n) w:=by
 simp[Instr.sliceAt,run_underlying h,Instr.sureAddr,Instr.sliceBounds,sizeOf,typeInfo,hi]
theorem zd4 {lk:Nat->TV} {x:Option Operand} (h:zrx (x.map (X.opd lk))=some none):x=none:=by
 cases x with
 |none=>rfl
 |some x=>
  simp only[Option.map_some]at h
  unfold zrx at h
  split at h
  ·rename_i he;cases he
  ·cases h
  ·cases h
theorem zow (hX:XOk X) (hnr:NR N S w) {h:zg} (hh:HR N S w h) {base:Nat} (hf:N base = .unused) {lk:Nat->TV} {a:Act} (hρ:∀x,RepT N S w (X.opd lk x) (a.eval x)) {o:Oper} {t:Nat} {x:Operand} {lo hi mx:Option Operand}
  (ho:o.op = .slice t x lo hi mx):(zte X h base t (X.opd lk x) (lo.map (X.opd lk)) (hi.map (X.opd lk)) (mx.map (X.opd lk))).Sound X.P N S w (execOp a.eval o):=by
 have hexec:∀v,(Instr.sliceAt t (a.eval x) (lo.map a.eval) (hi.map a.eval) (mx.map a.eval)).run X.P w = .ok v w->(execOp a.eval o).run X.P w = .ok (.value v) w:=by
  intro v h;unfold execOp;rw[ho];exact zdR h
 have hx:=hρ x
 generalize X.opd lk x=p at hx
 unfold zte
 split
 ·rename_i e k l hk e1 e3 e2
  have q1:=zaI hρ e1
  have q2:=zaI hρ e2
  have q3:=zaI hρ e3
  cases hc:(X.ty e).ok with
  |false=>trivial
  |true=>
   generalize hv:a.eval x=v at hx hexec
   have hr:=zdK hx
   have main:∀(s:Option Addr) (n c:Nat),v = .slice s n c->zcQ X.P N S w (execOp a.eval o) (.c (.own base)) [(base,.data k [])]:=by
    intro s n c hv'
    subst hv'
    have:=zch (w:=w) (base:=s) (len:=n) (cap:=c) hX hk hc q1 q2 q3 (by simp) (by simp) (by simp) (by simp) (by simp)
    simp only[Option.getD_none,Option.getD_some,Int.toNat_zero,Nat.sub_self,if_true]at this
    exact⟨_,w,_,.inl (hexec _ this),.c _ _ (.own0 base s (zy N _ _)),zmv hnr hf k⟩
   cases hr with
   |slnil _ s c=>exact main s 0 c rfl
   |sl _ _ ad c vs _ _ _ _ _ _ _=>exact main _ _ c rfl
 ·rename_i e k l li mi hiI _ hk e1 e3 e2
  have q1:=zaI hρ e1
  have q2:=zaI hρ e2
  have q3:=zaI hρ e3
  cases hc:((X.ty e).ok&&Nat.beq k.size (X.ty e).size) with
  |false=>trivial
  |true=>
   simp only[Bool.and_eq_true]at hc
   refine zfN fun hob=>?_
   obtain⟨u,hu,hr⟩:=zvh hX hk hc.1 (Nat.eq_of_beq_eq_true hc.2) (zdK hx) q1 q2 q3 hob
   exact zj hnr (hexec _ hu) (.c _ _ (.d _ _ hr))
 ·rename_i e b li mi hiI hk e1 e3 e2
  have q1:=zaI hρ e1
  have q2:=zaI hρ e2
  have q3:=zaI hρ e3
  split
  ·rename_i k l hb
   cases hc:((X.ty e).ok&&Nat.beq k.size (X.ty e).size) with
   |false=>trivial
   |true=>
    simp only[Bool.and_eq_true]at hc
    refine zfN fun hob=>?_
    have hbr:=(hh b _ hb).2
    generalize hv:a.eval x=v at hx hexec
    cases hx with|c _ _ hx=>
    rcases hbr with⟨hn,rfl⟩|⟨r,ws,T,h1,h2,h3,h4,h5,h6,h7⟩
    ·cases hx with
     |own0 _ s _=>
      obtain⟨s',hs,_,hz⟩:=zgQ hX hk hc.1 (s:=s) q1 q2 q3 hob rfl
      simp only[List.length_nil]at hz ⊢
      rw[hz]
      exact zj hnr (hexec _ hs) (.c _ _ (.view0 b _ s' (by rw[hn];simp)))
     |own _ r hr=>rw[hn]at hr;cases hr
     |ownD _ _ hd _=>rw[hn]at hd;cases hd
    ·cases hx with
     |own0 _ s hd=>rw[h1]at hd;cases hd
     |ownD _ _ hd _=>rw[h1]at hd;cases hd
     |own _ r' hr=>
      rw[h1]at hr
      cases hr
      have hso:=znL (S:=S) (w:=w) hX hk hc.1 (Nat.eq_of_beq_eq_true hc.2) h1 h2 (oo:=0) (n:=l.length) (c:=r.cap) (by omega) h4 (by omega) q1 q2 q3 hob
      simp only[Nat.zero_mul,Nat.zero_add]at hso
      obtain⟨u,hu,hr⟩:=hso
      rw[zaE h2,h3]at hexec
      exact zj hnr (hexec _ hu) (.c _ _ hr)
  ·trivial
 ·rename_i e b oo n li mi hiI hk e1 e3 e2
  have q1:=zaI hρ e1
  have q2:=zaI hρ e2
  have q3:=zaI hρ e3
  split
  ·rename_i k l hb
   cases hc:((X.ty e).ok&&Nat.beq k.size (X.ty e).size) with
   |false=>trivial
   |true=>
    simp only[Bool.and_eq_true]at hc
    refine zfN fun hob=>?_
    have hbr:=(hh b _ hb).2
    generalize hv:a.eval x=v at hx hexec
    cases hx with|c _ _ hx=>
    have hnd:N b≠.dead:=by
     rcases hbr with⟨hn,_⟩|⟨r,_,_,h1,_⟩
     ·rw[hn];simp
     ·rw[h1];simp
    cases hx with
    |viewD _ _ _ _ hd _=>exact absurd hd hnd
    |view0 _ _ s hu=>
     obtain⟨s',hs,_,hz⟩:=zgQ hX hk hc.1 (s:=s) q1 q2 q3 hob rfl
     rw[hz]
     exact zj hnr (hexec _ hs) (.c _ _ (.view0 b _ s' hu))
    |view _ _ _ c r hr h1 h2 h3=>
     rcases hbr with⟨hn,_⟩|⟨r',_,_,h1',h2',_⟩
     ·rw[hn]at hr;cases hr
     ·rw[h1']at hr
      cases hr
      obtain⟨u,hu,hr⟩:=znL (S:=S) (w:=w) hX hk hc.1 (Nat.eq_of_beq_eq_true hc.2) h1' h2' h1 h2 h3 q1 q2 q3 hob
      exact zj hnr (hexec _ hu) (.c _ _ hr)
  ·trivial
 ·rename_i e li mi hiI hk e1 e3 e2
  have q1:=zaI hρ e1
  have q2:=zaI hρ e2
  have q3:=zaI hρ e3
  cases hc:(X.ty e).ok with
  |false=>trivial
  |true=>
   simp only[Bool.not_true,cond_false]
   refine zfN fun hob=>?_
   have hv:=zI hx
   rw[hv]at hexec
   obtain⟨s',hs,h0,_⟩:=zgQ hX hk hc (s:=none) q1 q2 q3 hob rfl
   have:=h0 rfl
   subst this
   exact zj hnr (hexec _ hs) (zV rfl)
 ·rename_i n e xs hk e1 e3 e2
  cases zd4 e1
  cases zd4 e2
  cases zd4 e3
  split
  ·rename_i k hek
   have hok:(X.ty e).ok=true:=by
    cases hok:(X.ty e).ok with
    |true=>rfl
    |false=>have:=(hX.kind e hok).2.2;rw[hek]at this;cases this
   obtain⟨j,z,hj,_,hjs,_⟩:=zcm (N:=N) (S:=S) (w:=w) (hX.ty e hok)
   obtain⟨hks,_⟩:=(hX.ty e hok).ek k hek
   cases hc:(Nat.ble n zk&&Nat.beq xs.length (n*(X.ty e).size)) with
   |false=>trivial
   |true=>
    simp only[Bool.and_eq_true]at hc
    have hn:=Nat.le_of_ble_eq_true hc.1
    have hl:=Nat.eq_of_beq_eq_true hc.2
    simp only[cond_true]
    split
    ·rename_i l hfit
     generalize hv:a.eval x=v at hx hexec
     cases zdK hx with|rp _ ad vs hoo hs hl' hr hw=>
     obtain⟨h1,h2⟩:=zf0 hfit (zc7 (⟨hl',hr⟩:RepL (OO N S) w xs vs)) (by simpa using hl)
     have had:(if n=0 then ad else ad.add (0*j.size))=ad:=by
      split
      ·rfl
      ·simp[Addr.add]
     have hrun:=zgo (w:=w) (zhx hX hk) hj ad
     rw[had]at hrun
     refine zj hnr (hexec _ hrun) (.c _ _ (.d _ _ ?_))
     have:=Rep.sl (O:=OO N S) (w:=w) k l ad n vs hoo hs (by omega) (by simp only[zk,zE]at *;omega) h1.1 h1.2 hw
     rw[h2]at this
     exact this
    ·trivial
  ·trivial
 ·rename_i n e b hk e1 e3 e2
  cases zd4 e1
  cases zd4 e2
  cases zd4 e3
  split
  ·rename_i k cs hek hb
   have hok:(X.ty e).ok=true:=by
    cases hok:(X.ty e).ok with
    |true=>rfl
    |false=>have:=(hX.kind e hok).2.2;rw[hek]at this;cases this
   obtain⟨j,z,hj,_,hjs,_⟩:=zcm (N:=N) (S:=S) (w:=w) (hX.ty e hok)
   obtain⟨hks,_⟩:=(hX.ty e hok).ek k hek
   cases hc:(Nat.ble n zk&&Nat.beq cs.length (n*(X.ty e).size)) with
   |false=>trivial
   |true=>
    simp only[Bool.and_eq_true]at hc
    have hn:=Nat.le_of_ble_eq_true hc.1
    have hl:=Nat.eq_of_beq_eq_true hc.2
    simp only[cond_true]
    split
    ·rename_i l hfit
     obtain⟨r,vs,T,h1,h2,h3⟩:=hh b _ hb
     cases hx with|c _ _ hx=>
     obtain⟨r',hr',hpv⟩:=zcp hx (by rw[h1];simp)
     rw[h1]at hr'
     cases hr'
     obtain⟨h4,h5⟩:=zf0 hfit h3 hl
     have hvs:vs.size=n*(X.ty e).size:=by rw[←hl,h3.1];simp
     have had:(if n=0 then (⟨r.blk,0*r.esz+0,none⟩:Addr) else (⟨r.blk,0*r.esz+0,none⟩:Addr).add (0*j.size))=⟨r.blk,0,none⟩:=by
      split<;>simp[Addr.add]
     have hrun:=zgo (w:=w) (zhx hX hk) hj ⟨r.blk,0*r.esz+0,none⟩
     rw[had,←hpv]at hrun
     have hN:NExt N (zbw (zbw N b .dead) base (.live ⟨r.blk,n,n,k.size⟩)) w:=by
      refine⟨fun q=>?_,fun kk hkk ⟨q,hq⟩=>?_⟩
      ·by_cases e1:q=base
       ·subst e1;exact .inl hf
       ·by_cases e2:q=b
        ·subst e2;exact .inr (.inr (.inl (by rw[zo _ _ e1,zy])))
        ·exact .inr (.inl (by rw[zo _ _ e1,zo _ _ e2]))
      ·by_cases e1:q=base
       ·subst e1;rw[zy]at hq;have he:r.blk=kk:=hq;exact he▸zet h1
       ·rw[zo _ _ e1]at hq
        by_cases e2:q=b
        ·subst e2;rw[zy]at hq;exact hq.elim
        ·rw[zo _ _ e2]at hq;exact⟨q,hq⟩
     refine⟨_,w,_,.inl (hexec _ hrun),.c _ _ (.ownk base ⟨r.blk,n,n,k.size⟩ k (zy _ _ _) rfl),zeN hnr hf (by rw[h1];simp) _ (WExt.refl _ _) (by intro r' hr;cases hr;exact .inr ⟨r,h1,rfl⟩) ?_⟩
     refine⟨by simp only[zk,zE]at *;omega,.inr ⟨_,vs,T,zy _ _ _,rfl,h5.symm,by simp[h5],h2,by rw[hvs,hks];exact Nat.le_refl _,?_⟩⟩
     have e9:l.length*k.size=vs.toList.length:=by rw[h5,hks,←hvs];simp
     rw[e9,List.take_length]
     exact h4.keep (WExt.refl _ _) (hN.oo S)
    ·trivial
  ·trivial
 ·trivial
end
section
variable {X:Ctx} {N:zm} {S:Nat->Prop} {w:World}
theorem ztX {P:Program} {t:Nat} {x y:Value} {b:Bool} (h1:∀k n,x≠.int k n) (h2:∀k n,x≠.float k n) (h3:∀k n m,x≠.complex k n m) (h4:∀s,x≠.string s) (h:(Op.equal t x y).run P w = .ok b w):(binOp .eql t x y).run P w = .ok (.bool b) w:=by
 unfold binOp
 split<;>first|(exact absurd rfl (h1 _ _))|(exact absurd rfl (h2 _ _))|(exact absurd rfl (h3 _ _ _))|(exact absurd rfl (h4 _))|simp_all
theorem ztL {P:Program} {t:Nat} {x y:Value} {b:Bool} (h1:∀k n,x≠.int k n) (h2:∀k n,x≠.float k n) (h3:∀k n m,x≠.complex k n m) (h4:∀s,x≠.string s) (h:(Op.equal t x y).run P w = .ok b w):(binOp .neq t x y).run P w = .ok (.bool (!b)) w:=by
 unfold binOp
 split<;>first|(exact absurd rfl (h1 _ _))|(exact absurd rfl (h2 _ _))|(exact absurd rfl (h3 _ _ _))|(exact absurd rfl (h4 _))|simp_all
def zys (P:Program) (N:zm) (S:Nat->Prop) (w:World) (t:Nat) (u v:Value) (r:ER):Prop:=
 match r with
 |.ok (.c (.d (.lit (.bool b)))) []=>(Op.equal t u v).run P w = .ok b w
 |.dem p=>∃b,p b/\(Op.equal t u v).run P w = .ok b w
 |.bad=>True
 |_=>False
theorem zkY {P:Program} (d:Nat) {t e:Nat} (h:P.underlying t=some (.slice e)) (s:Option Addr) (n c:Nat):(Op.equalIn (d+1) t (.slice s n c) (.slice none 0 0)).run P w = .ok s.isNone w:=by
 cases s<;>simp[Op.equalIn,run_underlying h]
theorem zyj (hX:XOk X) {h:zg} (hh:HR N S w h) {t:Nat} {x y:TV} {u v:Value} (hx:RepT N S w x u) (hy:RepT N S w y v):zys X.P N S w t u v (aEq h (X.ty t) x y):=by
 have slcRun:∀ {e:Nat} (s:Option Addr) (n c:Nat),(X.ty t).k = .slc e->(Op.equal t (.slice s n c) (.slice none 0 0)).run X.P w = .ok s.isNone w:=by
  intro e s n c hk
  exact zkY 9999 (zaX hX hk) s n c
 unfold aEq
 split
 ·split
  ·rename_i a b _ hk
   rw[zI hx,zI hy]
   exact run_equal_bool w t a b (zv5 hX hk)
  ·trivial
 ·split
  ·rename_i _ e hk
   rw[zI hx,zI hy]
   exact slcRun none 0 0 hk
  ·trivial
 ·split
  ·rename_i k l _ e hk
   rw[zI hy]
   cases zdK hx with
   |slnil _ s c=>exact⟨_,fun _=>rfl,slcRun s 0 c hk⟩
   |sl _ _ ad c vs _ _ _ _ _ _ _=>exact⟨_,by simp,slcRun (some ad) _ c hk⟩
  ·trivial
 ·rename_i b
  split
  ·rename_i e k l hk hb
   rw[zI hy]
   have hbr:=(hh b _ hb).2
   cases hx with|c _ _ hx=>
   rcases hbr with⟨hn,hl⟩|⟨r,_,_,h1,h2,_⟩
   ·cases hx with
    |own0 _ s _=>exact⟨_,fun _=>hl,slcRun s 0 0 hk⟩
    |own _ r hr=>rw[hn]at hr;cases hr
    |ownD _ _ hd _=>rw[hn]at hd;cases hd
   ·cases hx with
    |own0 _ s hd=>rw[h1]at hd;cases hd
    |ownD _ _ hd _=>rw[h1]at hd;cases hd
    |own _ r' hr=>rw[h1]at hr;cases hr;rw[zaE h2];exact⟨_,by simp,slcRun _ _ _ hk⟩
  ·trivial
 ·rename_i xs ys
  cases hq:((X.ty t).eqf&&(X.ty t).ok&&ziK (X.ty t).zero xs) with
  |false=>trivial
  |true=>
   simp only[Bool.and_eq_true]at hq
   simp only[cond_true]
   split
   ·rename_i b hb
    cases hx with|agg _ vs hx=>
    cases hy with|agg _ us hy=>
    exact((hX.ty t hq.1.2).eqf hq.1.1 w xs ys vs us b N S hb hx hy hq.2).1
   ·trivial
 ·trivial
theorem zt5 {P:Program} {a:Act} {o:Oper} {t u:Nat} {x y:Operand} (ho:o.op = .binOp .eql t x y u) {b:Bool} (hg:(eqGuard .eql t x y (a.eval x) (a.eval y)).run P w = .ok () w) (h:(binOp .eql t (a.eval x) (a.eval y)).run P w = .ok (.bool b) w) :
  (execOp a.eval o).run P w = .ok (.value (.bool b)) w:=by
 rw[zlc ho]
 simp[hg,h]
theorem zqn {P:Program} {a:Act} {o:Oper} {t u:Nat} {x y:Operand} (ho:o.op = .binOp .neq t x y u) {b:Bool} (hg:(eqGuard .neq t x y (a.eval x) (a.eval y)).run P w = .ok () w) (h:(binOp .neq t (a.eval x) (a.eval y)).run P w = .ok (.bool b) w) :
  (execOp a.eval o).run P w = .ok (.value (.bool b)) w:=by
 rw[zlc ho]
 simp[hg,h]
theorem zw8 (hX:XOk X) {h:zg} (hh:HR N S w h) {t:Nat} {x y:TV} {u v:Value} (hx:RepT N S w x u) (hy:RepT N S w y v) (hb:aEq h (X.ty t) x y≠.bad) (op:BinOp) (ox oy:Operand):(eqGuard op t ox oy u v).run X.P w = .ok () w:=by
 unfold aEq at hb
 split at hb
 ·rw[zI hx];simp[eqGuard_at_bool]
 ·rw[zI hx];simp[eqGuard_at_slice]
 ·cases zdK hx<;>simp[eqGuard_at_slice]
 ·rename_i b
  cases hx with|c _ _ hx=>
  split at hb
  ·rename_i e k l hk hl
   cases hx with
   |own0 _ s _=>simp[eqGuard_at_slice]
   |own _ r hr=>
    rcases (hh b _ hl).2 with⟨hn,_⟩|⟨r',_,_,h1,h2,_⟩
    ·rw[hn]at hr;cases hr
    ·rw[h1]at hr;cases hr;rw[zaE h2];simp[eqGuard_at_slice]
   |ownD _ _ hd _=>
    rcases (hh b _ hl).2 with⟨hn,_⟩|⟨r,_,_,h1,_⟩
    ·rw[hn]at hd;cases hd
    ·rw[h1]at hd;cases hd
  ·exact absurd rfl hb
 ·rename_i xs ys
  cases hq:((X.ty t).eqf&&(X.ty t).ok&&ziK (X.ty t).zero xs) with
  |false=>rw[hq]at hb;exact absurd rfl hb
  |true=>
   rw[hq]at hb
   simp only[Bool.and_eq_true]at hq
   simp only[cond_true]at hb
   split at hb
   ·rename_i b hb'
    cases hx with|agg _ vs hx=>
    cases hy with|agg _ us hy=>
    exact run_eqGuard_agg w op t ox oy vs us ((hX.ty t hq.1.2).eqf hq.1.1 w xs ys vs us b N S hb' hx hy hq.2).2
   ·exact absurd rfl hb
 ·exact absurd rfl hb
theorem zyR {t:Nat} {h:zg} (hh:HR N S w h) {x y:TV} {u:Value} (hx:RepT N S w x u) (hb:aEq h (X.ty t) x y≠.bad) :
  (∀k n,u≠.int k n)/\(∀k n,u≠.float k n)/\(∀k n m,u≠.complex k n m)/\(∀s,u≠.string s):=by
 unfold aEq at hb
 split at hb
 ·rw[zI hx];simp
 ·rw[zI hx];simp
 ·cases zdK hx<;>simp
 ·rename_i b
  cases hx with|c _ _ hx=>
  split at hb
  ·rename_i e k l hk hl
   cases hx with
   |own0 _ s _=>simp
   |own _ r hr=>
    rcases (hh b _ hl).2 with⟨hn,_⟩|⟨r',_,_,h1,h2,_⟩
    ·rw[hn]at hr;cases hr
    ·rw[h1]at hr;cases hr;rw[zaE h2];simp
   |ownD _ _ hd _=>
    rcases (hh b _ hl).2 with⟨hn,_⟩|⟨r,_,_,h1,_⟩
    ·rw[hn]at hd;cases hd
    ·rw[h1]at hd;cases hd
  ·exact absurd rfl hb
 ·cases hx with|agg _ vs hx=>simp
 ·exact absurd rfl hb
theorem zse (hX:XOk X) (hnr:NR N S w) {h:zg} (hh:HR N S w h) {a:Act} {o:Oper} {op:BinOp} {t u:Nat} {x y:Operand} (ho:o.op = .binOp op t x y u) {p q:TV} (hp:RepT N S w p (a.eval x)) (hq:RepT N S w q (a.eval y)) :
  (zyz h (X.ty t) op p q).Sound X.P N S w (execOp a.eval o):=by
 have eqMain:∀(neg:Bool),(neg=false->op = .eql)->(neg=true->op = .neq)->(zyp neg (aEq h (X.ty t) p q)).Sound X.P N S w (execOp a.eval o):=by
  intro neg h0 h1
  by_cases hb:aEq h (X.ty t) p q = .bad
  ·rw[hb];cases neg<;>trivial
  ·have hg:=zw8 hX hh hp hq hb op x y
   have hrun:=zyj hX hh (t:=t) hp hq
   have hni':=zyR (X:=X) (w:=w) hh hp hb
   obtain⟨n1,n2,n3,n4⟩:=hni'
   generalize aEq h (X.ty t) p q=r at hrun hb
   unfold zys at hrun
   split at hrun
   ·rename_i b
    cases neg with
    |false=>
     have e:=h0 rfl
     subst e
     exact zj hnr (zt5 ho hg (ztX n1 n2 n3 n4 hrun)) (zV rfl)
    |true=>
     have e:=h1 rfl
     subst e
     exact zj hnr (zqn ho hg (ztL n1 n2 n3 n4 hrun)) (zV rfl)
   ·rename_i pp
    obtain⟨b,hb1,hb2⟩:=hrun
    cases neg with
    |false=>
     have e:=h0 rfl
     subst e
     exact⟨b,hb1,zt5 ho hg (ztX n1 n2 n3 n4 hb2)⟩
    |true=>
     have e:=h1 rfl
     subst e
     exact⟨!b,by simpa using hb1,zqn ho hg (ztL n1 n2 n3 n4 hb2)⟩
   ·exact absurd rfl hb
   ·exact hrun.elim
 unfold zyz
 split
 ·rename_i k i k' j
  have e1:=zI hp
  have e2:=zI hq
  split
  ·exact zjA hnr ho e1 e2
  ·exact zjA hnr ho e1 e2
  ·cases hk:decide (k=k') with
   |false=>trivial
   |true=>
    have:=of_decide_eq_true hk
    subst this
    exact zsv hnr ho e1 e2
 ·split
  ·exact eqMain false (fun _=>rfl) (fun h=>by cases h)
  ·exact eqMain true (fun h=>by cases h) (fun _=>rfl)
  ·trivial
theorem ztV {xs:List TV} {cs:List CV} {vs:List Value} (h:cvs xs=some cs) (hl:xs.length=vs.length) (hr:∀(i:Nat) (x:TV) (v:Value),xs[i]? = some x->vs[i]? = some v->RepT N S w x v) :
  RepCL N S w cs vs:=by
 induction xs generalizing cs vs with
 |nil=>
  simp only[cvs,Option.some.injEq]at h
  subst h
  have:vs=[]:=List.eq_nil_of_length_eq_zero hl.symm
  subst this
  exact⟨rfl,fun i x v hx=>by simp at hx⟩
 |cons x r ih=>
  cases vs with
  |nil=>simp at hl
  |cons v us=>
   cases x with
   |c y=>
    simp only[cvs,Option.map_eq_some_iff]at h
    obtain⟨cs',h1,rfl⟩:=h
    have h2:=ih h1 (by simpa using hl) (fun i x v hx hv=>hr (i+1) x v (by simpa using hx) (by simpa using hv))
    have h3:RepC N S w y v:=by cases hr 0 (.c y) v rfl rfl with|c _ _ h=>exact h
    refine⟨by simp[h2.1],fun i x u hx hu=>?_⟩
    cases i with
    |zero=>simp at hx hu;subst hx hu;exact h3
    |succ i=>exact h2.2 i x u (by simpa using hx) (by simpa using hu)
   |_=>simp[cvs]at h
theorem zdZ {xs ys:List TV} {vs us:List Value} (h:zbn N S w xs vs) (h' : zbn N S w ys us):zbn N S w (xs++ys) (vs++us):=by
 refine⟨by simp[h.1,h'.1],fun i x v hx hv=>?_⟩
 rcases Nat.lt_or_ge i xs.length with hi|hi
 ·rw[List.getElem?_append_left hi]at hx
  rw[List.getElem?_append_left (h.1▸hi)]at hv
  exact h.2 i x v hx hv
 ·rw[List.getElem?_append_right hi]at hx
  rw[List.getElem?_append_right (h.1▸hi)]at hv
  exact h'.2 _ x v hx (h.1▸hv)
theorem zfx {lk:Nat->TV} {a:Act} (hρ:∀x,RepT N S w (X.opd lk x) (a.eval x)) (l:List Operand):zbn N S w (l.map (X.opd lk)) (l.map a.eval):=by
 refine⟨by simp,fun i x v hx hv=>?_⟩
 simp only[List.getElem?_map,Option.map_eq_some_iff]at hx hv
 obtain⟨y,hy,rfl⟩:=hx
 obtain⟨z,hz,rfl⟩:=hv
 rw[hy]at hz
 cases hz
 exact hρ y
theorem zo7 {xs:List CV} {vs:List Value} (h:RepCL N S w xs vs):zbn N S w (xs.map .c) vs:=by
 refine⟨by simp[h.1],fun i x v hx hv=>?_⟩
 simp only[List.getElem?_map,Option.map_eq_some_iff]at hx
 obtain⟨y,hy,rfl⟩:=hx
 exact .c _ _ (h.2 i y v hy hv)
theorem ztJ {xs:List DV} {vs:List Value} (h:RepL (OO N S) w xs vs):zbn N S w (xs.map fun x=>.c (.d x)) vs:=by
 have:=zo7 (zc7 h)
 rw[List.map_map]at this
 exact this
theorem zrc {P:Program} {a:Act} {o:Oper} {c:Call} {g:Operand} (ho:o.op = .call c) (hc:c.callee = .value g) {f:Nat} {first caps:Array Value} (hg:a.eval g = .func (.func f) first caps) (hok:zfP P f) :
  (execOp a.eval o).run P w = .ok (.enter f ((first.toList++c.args.toList.map a.eval++caps.toList).toArray)) w:=by
 obtain⟨fn,h1,h2,h3⟩:=hok
 unfold execOp
 rw[ho]
 simp only[resolve,hc,hg,Deferred.ofValue,Sem.run_bind,Sem.run_pure,Result.andThen_ok,invoke,callFunc,run_program,h1,h2,h3,Bool.false_eq_true,if_false]
 congr 2
 apply Array.ext'
 simp
theorem zoB {P:Program} {t u e ty:TypeId} (h1:P.underlying t=some (.slice e)) (h2:P.underlying u=some (.int .i64)) {i:TypeInfo} (hi:P.info? e=some i) {z:Value} (hz:i.zero=some z) (hs:0<i.size) {n:Nat} (hn:0<n) (hm:n<=68719476736) (hb:i.bytes<=1024) (hfit:Builtin.nextslicecap n 0*i.bytes<=281474976710656) :
  (Builtin.append_ #[t,u] ty #[.slice none 0 0,.int .i64 n]).run P w =
   .ok (.slice (some ⟨w.heap.size,0,none⟩) n (grownCap w n 0 e))
    (w.drew.alloc (.cells (Builtin.zeroCells z.cells n++Builtin.zeroCells z.cells (grownCap w n 0 e-n)) e)):=by
 have w1:IntKind.i64.wrap (n:Int)=n:=IntWalk.i64_in _ (by omega)
 have h63' : ¬(9223372036854775807<(n:Int)):=by omega
 have h48' : ¬(281474976710656<Builtin.nextslicecap n 0*i.bytes):=by omega
 have hbl:(n:Int)*(i.bytes:Int)<=68719476736*1024:=Int.mul_le_mul (by omega) (by omega) (by omega) (by omega)
 have t1:¬(281474976710656<(n:Int)*(i.bytes:Int)):=by omega
 have n2:¬(n:Int)<0:=by omega
 have n0:¬n=0:=by omega
 have n3:¬i.size=0:=by omega
 have hf:(Builtin.firstCells i.size 0 (.slice none 0 0)).run P w.drew = .ok #[] w.drew:=by rw[run_firstCells_none]
 simp[Builtin.append_,run_underlying h1,run_underlying h2,sizeOf,typeInfo,zeroValue,hi,hz,w1,h63',h48',t1,n2,n0,n3,Question.forced,newRow,grownCap,hf,asInt,asIntOf]
 intro h
 rcases Nat.mul_eq_zero.1 h with h|h<;>omega
theorem zmJ (hX:XOk X) (hnr:NR N S w) {base:Nat} (hf:N base = .unused) {a:Act} {o:Oper} {x y:Operand} {t u:Nat} (ho:o.op = .call {callee:=.builtin .append,args:=#[x,y],argTypes:=#[t,u]})
  (hku:(X.ty u).k = .int .i64) {p q:TV} (hp:RepT N S w p (a.eval x)) (hq:RepT N S w q (a.eval y)):(zmR X base t p q).Sound X.P N S w (execOp a.eval o):=by
 have hcall:=zgl (P:=X.P) (w:=w) (a:=a) rfl ho
 unfold zmR
 split
 ·rename_i e n hk
  have hut:=zaX hX hk
  have huu:=ze4 hX hku
  split
  ·rename_i k hek
   have hok:(X.ty e).ok=true:=by
    cases hok:(X.ty e).ok with
    |true=>rfl
    |false=>have:=(hX.kind e hok).2.2;rw[hek]at this;cases this
   obtain⟨hks,hby⟩:=(hX.ty e hok).ek k hek
   obtain⟨j,z,hj,hjz,hjs,hzs,hzr⟩:=zcm (N:=N) (S:=S) (w:=w) (hX.ty e hok)
   obtain⟨j',_,hj',_,hjb,_⟩:=(hX.ty e hok).info
   rw[hj]at hj'
   cases hj'
   split
   ·rename_i zv hfit
    have hze:=zf8 hfit hzr
    have hzc:z.cells.size=k.size:=by omega
    have hpos:=k.pos
    rintro⟨h0,h2⟩
    simp only[zk]at h2
    rw[zI hp,zI hq]at hcall
    obtain⟨m,rfl⟩:=Int.eq_ofNat_of_zero_le h0
    by_cases hm:m=0
    ·subst hm
     refine⟨.slice none 0 0,w,_,.inl ?_,.c _ _ (.own0 base none (zy N _ _)),zmv hnr hf k⟩
     rw[hcall]
     have w0:IntKind.i64.wrap (0:Int)=0:=by decide
     simp[Builtin.append_,run_underlying hut,run_underlying huu,sizeOf,typeInfo,hj,asInt,asIntOf,w0]
    ·have hfit' : Builtin.nextslicecap m 0*j.bytes<=281474976710656:=by
      refine growslice_fits (by omega) ?_
      have h1:m*j.bytes<=68719476736*1024:=Nat.mul_le_mul (by omega) (by omega)
      omega
     have hrun:=zoB (P:=X.P) (w:=w) (ty:=o.type) hut huu hj hjz (by omega) (n:=m) (by omega) (by omega) (by omega) hfit'
     have hge:=grownCap_ge w m 0 e
     have hall:=zii (O:=OO N S) (w:=w) hzc hze m
     have hlen:(List.replicate m zv).length=m:=List.length_replicate
     have hzl:(Builtin.zeroCells z.cells m).toList.length=m*k.size:=by rw[Array.length_toList,size_zeroCells,hzc]
     obtain⟨e1,e2⟩:=zh4 (l:=List.replicate m zv) hnr hf (grownCap w m 0 e) (vs:=Builtin.zeroCells z.cells m++Builtin.zeroCells z.cells (grownCap w m 0 e-m)) e (w1:=w.drew) (zjH w) rfl (by rw[hlen];exact hge) (by rw[hlen];simp only[zE];omega) (by
      rw[Array.size_append,size_zeroCells,size_zeroCells,hzc,←Nat.add_mul]
      exact Nat.mul_le_mul_right _ (by omega)) (by
      rw[Array.toList_append,hlen,←hzl,List.take_left]
      exact hall)
     refine⟨_,_,_,.inl ?_,e1,e2⟩
     rw[hlen,hcall]
     exact congrArg (fun r:Result Value=>r.andThen fun v w'=>Result.ok (Next.value v) w') hrun
   ·trivial
  ·trivial
 ·trivial
theorem ztk (hX:XOk X) (hnr:NR N S w) {a:Act} {o:Oper} {x:Operand} {t:Nat} (ho:o.op = .call {callee:=.builtin .cap,args:=#[x],argTypes:=#[t]})
  {p:TV} (hp:RepT N S w p (a.eval x)):(zy8 X t p).Sound X.P N S w (execOp a.eval o):=by
 unfold zy8
 split
 ·rename_i e hk
  have hut:=zaX hX hk
  have hc:(execOp a.eval o).run X.P w=((Builtin.cap_ #[t] o.type #[a.eval x]).run X.P w).andThen fun v w'=>.ok (.value v) w':=by
   unfold execOp;rw[ho]
   simp[resolve,invoke,builtin]
  have this:(execOp a.eval o).run X.P w = .ok (.value (goInt 0)) w:=by
   rw[hc,zI hp]
   simp[Builtin.cap_,run_underlying hut]
  exact zj hnr this (zV rfl)
 ·trivial
theorem zkd (X:Ctx) (base t n:Nat) (ps:List (Nat×TV)):∀b c k l,zdN X base t n ps = .ok (.c (.own b)) [(c,.data k l)]->c=base:=by
 intro b c k l h
 unfold zdN at h
 split at h
 ·simp only at h
  split at h
  ·rename_i k' cs _ _
   cases hc:(!(Nat.ble (n*(X.ty _).size) 16777216) || !(Nat.ble n zk)) with
   |true=>rw[hc]at h;cases h
   |false=>
    rw[hc]at h
    simp only[cond_false]at h
    split at h
    ·cases h;rfl
    ·cases h
  ·cases h
 ·cases h
theorem zvk {P:Program} (hnr:NR N S w) {base:Nat} {fz:Bool} {r:ER} {s:Sem Next} (hb:∀b c k l,r = .ok (.c (.own b)) [(c,.data k l)]->c=base) (hf:N base = .unused) (h:r.Sound P N S w s):(fzE fz r).Sound P N S w s:=by
 unfold fzE
 split
 ·rename_i b c k l
  cases fz with
  |false=>exact h
  |true=>
   simp only[cond_true]
   cases hbc:Nat.beq b c with
   |false=>trivial
   |true=>
    simp only[cond_true]
    have:=Nat.eq_of_beq_eq_true hbc
    subst this
    have hbb:=hb b b k l rfl
    subst hbb
    obtain⟨v,w',N',hrun,hrep,hst⟩:=h
    have hun:∀c,c≠b->N' c=N c:=fun c hc=>hst.same c fun hd=>hc (by
     unfold dom at hd
     simp only[zh]at hd
     cases hbq:Nat.beq b c with
     |true=>exact(Nat.eq_of_beq_eq_true hbq).symm
     |false=>rw[hbq]at hd;cases hd)
    have hext:WExt (fun _=>False) w w':=hst.ext.mono fun k _ ⟨c,hd,hr⟩=>by
     by_cases hc:c=b
     ·subst hc;rw[hf]at hr;exact hr
     ·refine hc ?_
      unfold dom at hd
      simp only[zh]at hd
      cases hbq:Nat.beq b c with
      |true=>exact(Nat.eq_of_beq_eq_true hbq).symm
      |false=>rw[hbq]at hd;cases hd
    have hnr0:NR N S w':=⟨hnr.inj',fun c r hc=>⟨Nat.lt_of_lt_of_le (hnr.lt' c r hc).1 hext.size,(hnr.lt' c r hc).2⟩,fun k hk=>Nat.lt_of_lt_of_le (hnr.sm k hk) hext.size⟩
    have hoo:∀k,k<w'.heap.size->OO N S k->OO N' S k:=fun k _ ho=>by
     rcases ho with⟨c,hc⟩|ho
     ·by_cases hcb:c=b
      ·subst hcb;rw[hf]at hc;exact hc.elim
      ·exact .inl ⟨c,by rw[hun c hcb];exact hc⟩
     ·exact .inr ho
    have hbr:=hst.has b (.data k l) (by simp[zh])
    refine⟨v,w',N,hrun,?_,hext.mono (fun _ _ h=>h.elim),hnr0,.refl _ _,fun _ _=>rfl,fun c x hx=>(by cases hx)⟩
    cases hrep with|c _ _ hrep=>
    obtain⟨hm,⟨hn,hl⟩|⟨r,ws,T,h1,h2,h3,h4,h5,h6,h7⟩⟩:=hbr
    ·subst hl
     cases hrep with
     |own0 _ a _=>exact .c _ _ (.d _ _ (.slnil k a 0))
     |own _ r hr=>rw[hn]at hr;cases hr
     |ownD _ _ hd _=>rw[hn]at hd;cases hd
    ·cases hrep with
     |own0 _ a hd=>rw[h1]at hd;cases hd
     |ownD _ _ hd _=>rw[h1]at hd;cases hd
     |own _ r' hr'=>
      rw[h1]at hr'
      cases hr'
      rw[zaE h2,h3]
      have h7':=RepL.keep (.refl _ _) hoo h7
      refine .c _ _ (.d _ _ (.sl k l ⟨r.blk,0,none⟩ r.cap _ (fun _ ho=>?_) rfl h4 hm h7'.1 h7'.2 (zan h5 0 _ fun j v hv=>by rw[List.getElem?_take]at hv;split at hv;simpa using hv;cases hv)))
      rcases ho with⟨c,hc⟩|ho
      ·by_cases hcb:c=b
       ·subst hcb;rw[hf]at hc;exact hc.elim
       ·exact hcb (hst.nr.inj' c b r.blk (by rw[hun c hcb];exact hc) (NS.has_live h1))
      ·exact(hst.nr.lt b r h1).2 ho
 ·exact h
end
section
variable {X:Ctx} {N:zm} {S:Nat->Prop} {w:World}
theorem zwx {P:Program} {a:Act} {o:Oper} {op:UnOp} {t:Nat} {x:Operand} (ho:o.op = .unOp op t x) {v:Value} (h:(Op.unary op (a.eval x)).run P w = .ok v w):(execOp a.eval o).run P w = .ok (.value v) w:=by
 unfold execOp;rw[ho];exact zdR h
theorem zq4 (hX:XOk X) (hnr:NR N S w) {a:Act} {o:Oper} {s t:Nat} {x:Operand} (ho:o.op = .convert s t x) {p:TV} (hp:RepT N S w p (a.eval x)):(zwt X s t p).Sound X.P N S w (execOp a.eval o):=by
 unfold zwt
 split
 ·rename_i ks k kv n hs ht
  refine zj hnr ?_ (zV rfl)
  unfold execOp;rw[ho];refine zdR ?_
  rw[zI hp]
  simp[convert,run_underlying (ze4 hX hs),run_underlying (ze4 hX ht),Conv.intToInt]
 ·trivial
theorem zzj {α β:Type} {f:α->β} {l:List α} {p:β} (h:l.map f=[p]):∃x,l=[x]/\f x=p:=by
 rcases l with _|⟨x,_|⟨y,r⟩⟩
 ·cases h
 ·simp at h;exact⟨x,rfl,h⟩
 ·simp at h
theorem zzl {α β:Type} {f:α->β} {l:List α} {p q:β} (h:l.map f=[p,q]):∃x y,l=[x,y]/\f x=p/\f y=q:=by
 rcases l with _|⟨x,_|⟨y,_|⟨z,r⟩⟩⟩
 ·cases h
 ·simp at h
 ·simp at h;exact⟨x,y,rfl,h⟩
 ·simp at h
theorem znC {b:Builtin} (hb:b = .max\/b = .min) (hnr:NR N S w) {lk:Nat->TV} {a:Act} (hρ:∀x,RepT N S w (X.opd lk x) (a.eval x)) {o:Oper} {c:Call} (ho:o.op = .call c) (hc:c.callee = .builtin b) :
  (match zxU b (c.args.toList.map (X.opd lk)) with|some (k,n)=>ER.ok (.lit (.int k n)) []|none=>.bad).Sound X.P N S w (execOp a.eval o):=by
 split
 ·rename_i k n h
  have hargs:∃v,(match b with|.max=>Builtin.max_ c.argTypes o.type (c.args.map a.eval)|_=>Builtin.min_ c.argTypes o.type (c.args.map a.eval)).run X.P w = .ok v w/\v = .int k n:=by
   have hl:(c.args.map a.eval).toList=c.args.toList.map a.eval:=by simp
   generalize c.args.toList=l at h hl
   unfold zxU at h
   split at h
   ·rename_i k' x hx
    cases h
    obtain⟨y,rfl,hy⟩:=zzj hx
    have:=hρ y
    rw[hy]at this
    have hy:=zI this
    simp only[List.map_cons,List.map_nil,hy]at hl
    rcases hb with rfl|rfl
    ·exact⟨_,by unfold Builtin.max_;rw[hl];rfl,rfl⟩
    ·exact⟨_,by unfold Builtin.min_;rw[hl];rfl,rfl⟩
   ·rename_i k' x k'' y hx
    cases hk:decide (k' = k'') with
    |false=>rw[hk]at h;cases h
    |true=>
     have e:=of_decide_eq_true hk
     subst e
     rw[hk]at h
     simp only[cond_true,Option.some.injEq,Prod.mk.injEq]at h
     obtain⟨y1,y2,rfl,hx1,hx2⟩:=zzl hx
     have h1:=hρ y1
     have h2:=hρ y2
     rw[hx1]at h1
     rw[hx2]at h2
     have e1:=zI h1
     have e2:=zI h2
     simp only[List.map_cons,List.map_nil,e1,e2]at hl
     obtain⟨rfl,rfl⟩:=h
     rcases hb with rfl|rfl
     ·exact⟨_,by unfold Builtin.max_;rw[hl];simp[Builtin.max2],rfl⟩
     ·exact⟨_,by unfold Builtin.min_;rw[hl];simp[Builtin.min2],rfl⟩
   ·cases h
  obtain⟨v,hv,rfl⟩:=hargs
  refine zj hnr ?_ (zV rfl)
  unfold execOp;rw[ho]
  rcases hb with rfl|rfl
  ·simp only[resolve,hc,Sem.run_bind,Sem.run_pure,Result.andThen_ok,invoke,builtin]
   simp only at hv
   rw[hv]
   rfl
  ·simp only[resolve,hc,Sem.run_bind,Sem.run_pure,Result.andThen_ok,invoke,builtin]
   simp only at hv
   rw[hv]
   rfl
 ·trivial
theorem zn4:∀ {cs:List CV} {xs:List DV},zqK cs=some xs->cs=xs.map .d
 |[],xs,h=>by cases h;rfl
 |.d x::r,xs,h=>by
  unfold zqK at h
  cases hr:zqK r with
  |none=>rw[hr]at h;cases h
  |some ys=>rw[hr]at h;cases h;rw[zn4 hr];rfl
 |.ptr ..::r,xs,h=>by cases h
 |.own ..::r,xs,h=>by cases h
 |.view ..::r,xs,h=>by cases h
 |.cl ..::r,xs,h=>by cases h
 |.any::r,xs,h=>by cases h
theorem zsJ {P:Program} {fb:Bool} (hnr:NR N S w) {base:Nat} (hf:N base = .unused) {a:Act} {o:Oper} {t:Nat} {x:Operand} (ho:o.op = .box t x) {p:TV} (hp:RepT N S w p (a.eval x)) {cs:List CV} (hc:p.cells=some cs) :
  (zy3 fb base cs).Sound P N S w (execOp a.eval o):=by
 unfold zy3
 have hbox:zcQ P N S w (execOp a.eval o) (.c (.ptr base 0 0)) [(base,.vars cs)]:=by
  obtain⟨e1,e2⟩:=zms hnr hf t (zj1 hp hc)
  refine⟨_,_,_,.inl ?_,e1,e2⟩
  unfold execOp;rw[ho];refine zdR ?_
  simp[Instr.box,newVar,newRow]
 cases fb with
 |false=>exact hbox
 |true=>
  simp only[cond_true]
  split
  ·rename_i xs hx
   have hcs:=zn4 hx
   obtain⟨v,w',N',hrun,hrep,hst⟩:=hbox
   have hdom:∀c,dom [(base,AB.vars cs)] c->c=base:=fun c hd=>by
    unfold dom at hd
    simp only[zh]at hd
    cases hbq:Nat.beq base c with
    |true=>exact(Nat.eq_of_beq_eq_true hbq).symm
    |false=>rw[hbq]at hd;cases hd
   have hun:∀c,c≠base->N' c=N c:=fun c hc=>hst.same c fun hd=>hc (hdom c hd)
   have hext:WExt (fun _=>False) w w':=hst.ext.mono fun k _ ⟨c,hd,hr⟩=>by
    have:=hdom c hd
    subst this
    rw[hf]at hr;exact hr
   have hnr0:NR N S w':=⟨hnr.inj',fun c r hc=>⟨Nat.lt_of_lt_of_le (hnr.lt' c r hc).1 hext.size,(hnr.lt' c r hc).2⟩,fun k hk=>Nat.lt_of_lt_of_le (hnr.sm k hk) hext.size⟩
   have hoo:∀k,k<w'.heap.size->OO N S k->OO N' S k:=fun k _ ho=>by
    rcases ho with⟨c,hc⟩|ho
    ·by_cases hcb:c=base
     ·subst hcb;rw[hf]at hc;exact hc.elim
     ·exact .inl ⟨c,by rw[hun c hcb];exact hc⟩
    ·exact .inr ho
   obtain⟨r,vs,T,h1,h2,h3⟩:=hst.has base (.vars cs) (by simp[zh])
   refine⟨v,w',N,hrun,?_,hext.mono (fun _ _ h=>h.elim),hnr0,.refl _ _,fun _ _=>rfl,fun c x hx=>(by cases hx)⟩
   cases hrep with|c _ _ hrep=>
   obtain⟨r',hr',rfl⟩:=zcp hrep (by rw[h1];simp)
   rw[h1]at hr'
   cases hr'
   refine .c _ _ (.d _ _ (.rp xs ⟨r.blk,0*r.esz+0,none⟩ vs.toList (fun _ ho=>?_) rfl (by rw[←h3.1,hcs];simp) (fun i x v hx hv=>?_) ?_))
   ·rcases ho with⟨c,hc⟩|ho
    ·by_cases hcb:c=base
     ·subst hcb;rw[hf]at hc;exact hc.elim
     ·exact hcb (hst.nr.inj' c base r.blk (by rw[hun c hcb];exact hc) (NS.has_live h1))
    ·exact(hst.nr.lt base r h1).2 ho
   ·have:=h3.2 i (.d x) v (by rw[hcs,List.getElem?_map,hx];rfl) hv
    exact(zdK (.c _ _ this)).keep (.refl _ _) hoo
   ·rw[Nat.zero_mul,Nat.zero_add]
    exact zan h2 _ _ fun j v hv=>by simpa using hv
  ·exact hbox
theorem zi0 (hX:XOk X) (hnr:NR N S w) {h:zg} (hh:HR N S w h) (hg:GOk X (OO N S) w) {base:Nat} (hf:N base = .unused) {lk:Nat->TV} {a:Act} (hlk:∀t,RepT N S w (lk t) (a.eval (.tmp t))) (o:Oper) :
  (zo2 X lk h base o.op).Sound X.P N S w (execOp a.eval o):=by
 have hρ:∀x,RepT N S w (X.opd lk x) (a.eval x):=fun x=>zjc hlk hg x
 unfold zo2
 simp only
 split
 ·rename_i x ho
  refine zj hnr (v:=a.eval x) ?_ (hρ x)
  unfold execOp;rw[ho];simp
 ·rename_i x ho
  refine zj hnr (v:=a.eval x) ?_ (hρ x)
  unfold execOp;rw[ho];simp
 ·rename_i t ho
  cases ht:(X.ty t).ok with
  |false=>trivial
  |true=>exact zrb hX hnr hf ho ht
 ·rename_i t x ho
  split
  ·rename_i cs hc
   exact zsJ hnr hf ho (hρ x) hc
  ·trivial
 ·rename_i t ps ho
  exact zoC hX hnr hρ ho
 ·rename_i t n ps ho
  exact zvk hnr (zkd X base t n _) hf (zjs hX hnr hf hρ ho)
 ·rename_i t x ho
  exact zqI hX hnr hh ho (hρ x)
 ·rename_i t x y ho
  exact zo8 hX hnr hh ho (hρ x) (hρ y)
 ·rename_i x ho
  have hx:=hρ x
  split
  ·rename_i b i off hp
   rw[hp]at hx
   cases hal:zky h b with
   |false=>trivial
   |true=>
    cases hx with|c _ _ hx=>
    obtain⟨r,hr,hv⟩:=zcp hx (zmd hh hal)
    refine zj hnr (v:=a.eval x) ?_ (by rw[hv];exact .c _ _ (.ptr b i off r hr))
    unfold execOp;rw[ho]
    simp[hv]
  ·rename_i xs hp
   rw[hp]at hx
   generalize hv:a.eval x=v at hx
   refine zj hnr (v:=v) ?_ hx
   unfold execOp;rw[ho]
   simp only[hv]
   cases zdK hx
   rfl
  ·rename_i f1 a1 b1 hp
   rw[hp]at hx
   generalize hv:a.eval x=v at hx
   refine zj hnr (v:=v) ?_ hx
   unfold execOp;rw[ho]
   simp only[hv]
   cases zdK hx
   rfl
  ·rename_i f1 a1 b1 hp
   rw[hp]at hx
   generalize hv:a.eval x=v at hx
   refine zj hnr (v:=v) ?_ hx
   unfold execOp;rw[ho]
   simp only[hv]
   cases hx with|c _ _ hx=>
   cases hx
   rfl
  ·trivial
 ·rename_i op t x y u ho
  exact zse hX hnr hh ho (hρ x) (hρ y)
 ·rename_i op t x ho
  have hx:=hρ x
  split
  ·rename_i b hp
   rw[hp]at hx
   exact zj hnr (zwx ho (by rw[zI hx];rfl)) (zV rfl)
  ·rename_i k n hp
   rw[hp]at hx
   exact zj hnr (zwx ho (by rw[zI hx];rfl)) (zV rfl)
  ·trivial
 ·rename_i s t x ho
  exact zq4 hX hnr ho (hρ x)
 ·rename_i f first caps ho
  split
  ·rename_i l1 l2 h1 h2
   have r1:=ztV (vs:=first.toList.map a.eval) h1 (by simp) (zfx hρ first.toList).2
   have r2:=ztV (vs:=caps.toList.map a.eval) h2 (by simp) (zfx hρ caps.toList).2
   refine zj hnr (v:=.func (.func f) (first.map a.eval) (caps.map a.eval)) ?_ (.c _ _ (.cl f l1 l2 _ _ (by simpa using r1.1) (by simpa using r2.1) ?_ ?_))
   ·unfold execOp;rw[ho]
    simp[Instr.makeFunc]
   ·intro i x v hx hv
    exact r1.2 i x v hx (by simpa using hv)
   ·intro i x v hx hv
    exact r2.2 i x v hx (by simpa using hv)
  ·trivial
 ·rename_i t x y ho
  exact zqe hX hnr hf ho (hρ x) (hρ y)
 ·rename_i t x lo hi mx ho
  exact zow hX hnr hh hf hρ ho
 ·rename_i t x f ho
  exact zkk hX hnr hh ho (hρ x)
 ·rename_i t x f ho
  exact zoY hX hnr ho (hρ x)
 ·rename_i t x y ho
  exact zjN hX hnr hh ho (hρ x) (hρ y)
 ·rename_i t x y ho
  exact zoI hX hnr ho (hρ x) (hρ y)
 ·rename_i t ho
  split
  ·exact zm5 hnr hf ho
  ·trivial
 ·rename_i t x y z ho
  exact zhR hX hnr hh (.inl ho) (hρ x) (hρ y) (hρ z)
 ·rename_i t x y z ho
  exact zhR hX hnr hh (.inr ho) (hρ x) (hρ y) (hρ z)
 ·rename_i t x y is ho
  exact zm8 hX hnr hh ho (hρ x) (hρ y)
 ·rename_i x i ho
  have hx:=hρ x
  split
  ·rename_i vs hp
   rw[hp]at hx
   split
   ·rename_i tv hi
    rw[zcg]at hi
    generalize hv:a.eval x=v at hx
    cases hx with|tup _ us hl hr=>
    have hlt:i<us.size:=by
     rw[←hl]
     exact(List.getElem?_eq_some_iff.1 hi).1
    refine zj hnr (v:=us[i]) ?_ (hr i tv _ hi (Array.getElem?_eq_getElem hlt))
    unfold execOp;rw[ho];refine zdR ?_
    rw[hv]
    simp[Instr.extract,hlt]
   ·trivial
  ·trivial
 ·rename_i c ho
  split
  ·rename_i g hc
   have hgv:=hρ g
   split
   ·rename_i f first caps hp
    rw[hp]at hgv
    intro hok
    generalize hv:a.eval g=v at hgv
    cases zdK hgv with|fn _ _ _ vf vc hf hcc hrf hrc=>
    refine⟨_,zrc ho hc hv hok,?_⟩
    refine zdZ (zdZ (ztJ ⟨by simpa using hf,?_⟩) (zfx hρ _)) (ztJ ⟨by simpa using hcc,?_⟩)
    ·intro i x v hx hv;exact hrf i x v hx (by simpa using hv)
    ·intro i x v hx hv;exact hrc i x v hx (by simpa using hv)
   ·rename_i f first caps hp
    rw[hp]at hgv
    intro hok
    generalize hv:a.eval g=v at hgv
    cases hgv with|c _ _ hgv=>
    cases hgv with|cl _ _ _ vf vc hf hcc hrf hrc=>
    refine⟨_,zrc ho hc hv hok,?_⟩
    rw[List.append_nil]
    refine zdZ (zdZ (zo7 ⟨by simpa using hf,?_⟩) (zfx hρ _)) (zo7 ⟨by simpa using hcc,?_⟩)
    ·intro i x v hx hv;exact hrf i x v hx (by simpa using hv)
    ·intro i x v hx hv;exact hrc i x v hx (by simpa using hv)
   ·rename_i l fa fb hp
    rw[hp]at hgv
    cases hab:(Nat.beq fa.size 0&&Nat.beq fb.size 0) with
    |false=>trivial
    |true=>
     simp only[Bool.and_eq_true]at hab
     have h1:fa = #[]:=Array.eq_empty_of_size_eq_zero (Nat.eq_of_beq_eq_true hab.1)
     have h2:fb = #[]:=Array.eq_empty_of_size_eq_zero (Nat.eq_of_beq_eq_true hab.2)
     subst h1 h2
     have hv:=zI hgv
     refine⟨c.args.toList.map a.eval,?_,zfx hρ _⟩
     unfold execOp
     rw[ho]
     simp only[resolve,hc,hv,Deferred.ofValue,Sem.run_bind,Sem.run_pure,Result.andThen_ok,invoke]
     congr 2
     apply Array.ext'
     simp
   ·trivial
  ·rename_i b hc
   have hcall:∀(b' : Builtin) (x:Operand) (t:Nat),b=b'->c.argTypes.toList=[t]->c.args.toList=[x]->o.op = .call {callee:=.builtin b',args:=#[x],argTypes:=#[t]}:=by
    intro b' x t e1 e2 e3
    rw[ho]
    cases c with|mk cc ca ct=>
    simp only at hc e2 e3 ⊢
    rw[hc,e1,←Array.toArray_toList (xs:=ca),←Array.toArray_toList (xs:=ct),e2,e3]
   have hcall2:∀(b' : Builtin) (x y:Operand) (t u:Nat),b=b'->c.argTypes.toList=[t,u]->c.args.toList=[x,y]->o.op = .call {callee:=.builtin b',args:=#[x,y],argTypes:=#[t,u]}:=by
    intro b' x y t u e1 e2 e3
    rw[ho]
    cases c with|mk cc ca ct=>
    simp only at hc e2 e3 ⊢
    rw[hc,e1,←Array.toArray_toList (xs:=ca),←Array.toArray_toList (xs:=ct),e2,e3]
   have args1:∀p,c.args.toList.map (X.opd lk)=[p]->∃x,c.args.toList=[x]/\p=X.opd lk x:=by
    intro p hp
    obtain⟨x,h1,h2⟩:=zzj hp
    exact⟨x,h1,h2.symm⟩
   have args2:∀p q,c.args.toList.map (X.opd lk)=[p,q]->∃x y,c.args.toList=[x,y]/\p=X.opd lk x/\q=X.opd lk y:=by
    intro p q hp
    obtain⟨x,y,h1,h2,h3⟩:=zzl hp
    exact⟨x,y,h1,h2.symm,h3.symm⟩
   split
   ·rename_i t p ht hp
    obtain⟨x,hx,rfl⟩:=args1 p hp
    exact zsO hX hnr hh (hcall _ x t rfl ht hx) (hρ x)
   ·rename_i t u p q ht hp
    obtain⟨x,y,hx,rfl,rfl⟩:=args2 p q hp
    split
    ·rename_i e2 hk
     exact zm3 hX hnr hh hf (hcall2 _ x y t u rfl ht hx) hk (hρ x) (hρ y)
    ·rename_i hk
     exact zmJ hX hnr hf (hcall2 _ x y t u rfl ht hx) hk (hρ x) (hρ y)
    ·trivial
   ·rename_i t u p q ht hp
    obtain⟨x,y,hx,rfl,rfl⟩:=args2 p q hp
    split
    ·exact zrd hX hnr hh (hcall2 _ x y t u rfl ht hx) (hρ x) (hρ y)
    ·trivial
   ·rename_i t p ht hp
    obtain⟨x,hx,rfl⟩:=args1 p hp
    exact zo1 hX hnr hh (hcall _ x t rfl ht hx) (hρ x)
   ·rename_i t p ht hp
    obtain⟨x,hx,rfl⟩:=args1 p hp
    exact ztk hX hnr (hcall _ x t rfl ht hx) (hρ x)
   ·exact znC (.inl rfl) hnr hρ ho hc
   ·exact znC (.inr rfl) hnr hρ ho hc
   ·trivial
  ·trivial
 ·trivial
end
end Go.Abs
