/- Walks and plain laws: WAllocK, WAlloc, WTake, WFlush, WRef07. -/
import Derived.Test.YtlankjlnnimdoaaGreatDoorPe
import Derived.Test.YtlankjlnnimdoaaGreatDoorPd
set_option linter.all false
namespace Go.Abs
set_option maxRecDepth 8000
def startsOn (l:List Page) (i:Nat):List Int:=(zH (l.getD i default) (16*((i:Int)+1))).map (·.1)
def zcI (w:List Int):List Int->List Int
 |[]=>w
 |a::r=>zcI (w.set (a-16).toNat 0) r
theorem zlZ (a:Int):∀(l w:List Int),zcI w (l++[a])=(zcI w l).set (a-16).toNat 0
 |[],w=>rfl
 |x::r,w=>zlZ a r _
theorem zdS:∀(l w:List Int),(zcI w l).length=w.length
 |[],w=>rfl
 |x::r,w=>by unfold zcI;rw[zdS r,List.length_set]
def zN (g:Hp) (k:Int):Hp:=match za6 g.pages 1 with
 |some i=>⟨zcI g.w (startsOn (zbA g.pages i [⟨1,k⟩]) i).reverse,zbA g.pages i [⟨1,k⟩],g.free.set_ k (g.free.at_ k++(startsOn (zbA g.pages i [⟨1,k⟩]) i).reverse),g.cards⟩
 |none=>g
def zet (g:Hp):Int:=match za6 g.pages 1 with
 |some _=>0
 |none=>4
theorem zaZ {g:Hp} {i:Nat} (h:za6 g.pages 1=some i) (k:Int):zN g k=⟨zcI g.w (startsOn (zbA g.pages i [⟨1,k⟩]) i).reverse,zbA g.pages i [⟨1,k⟩],g.free.set_ k (g.free.at_ k++(startsOn (zbA g.pages i [⟨1,k⟩]) i).reverse),g.cards⟩/\zet g=0:=by
 unfold zN zet;rw[h];exact⟨rfl,rfl⟩
theorem zaY {g:Hp} (h:za6 g.pages 1=none) (k:Int):zN g k=g/\zet g=4:=by
 unfold zN zet;rw[h];exact⟨rfl,rfl⟩
theorem ztN (l:List Page) (i:Nat) (q:Page) (hi:i<l.length):(zbA l i [q]).length=l.length:=by
 rw[ziX (by show i+1<=l.length;omega)]
 simp;omega
theorem zkx {l:List Page} {i n:Nat} {X:List Page} (hX:X.length=n) (h:zaq l n i=true):zbA l i X=l.take i++X++l.drop (i+n):=by
 obtain⟨h1,_⟩:=zay.1 h
 rw[ziX (by omega),hX]
theorem zeh {l:List Page} {i n:Nat} {X:List Page} (hX:X.length=n) (h:zaq l n i=true):(zbA l i X).length=l.length:=by
 obtain⟨h1,_⟩:=zay.1 h
 rw[zkx hX h,List.length_append,List.length_append,List.length_take,List.length_drop,hX]
 omega
theorem ziy {B:List Page}:∀(R:List Page),(∀p∈R,p.kind=0)->∀r:Int,0<=r->R≠[]->pgo r (R++B)=true->r=0/\pgo 0 B=true
 |[],_,_,_,hne,_=>absurd rfl hne
 |[p],hz,r,h0,_,h=>by
  have hk:=hz p (List.mem_singleton_self p)
  simp only[List.cons_append,List.nil_append,pgo,hk]at h
  simp at h
  have:r=0:=by omega
  subst this
  exact⟨rfl,h.2⟩
 |p::q::R,hz,r,h0,_,h=>by
  have hk:=hz p (List.mem_cons_self ..)
  simp only[List.cons_append,pgo,hk]at h
  simp at h
  have:r=0:=by omega
  subst this
  obtain⟨_,h2⟩:=ziy (B:=B) (q::R) (fun x hx=>hz x (List.mem_cons_of_mem _ hx)) 0 (Int.le_refl 0) (by simp) (by simpa [pgo] using h.2)
  exact⟨rfl,h2⟩
theorem zkw {R X B:List Page} (hR:R≠[]) (hz:∀p∈R,p.kind=0) (hX:pgo 0 B=true->pgo 0 (X++B)=true):∀(A:List Page) (r:Int),0<=r->(∀p∈A,zbu p)->pgo r (A++(R++B))=true->pgo r (A++(X++B))=true
 |[],r,h0,_,h=>by
  obtain⟨e,hB⟩:=ziy R hz r h0 hR h
  subst e
  exact hX hB
 |p::A,r,h0,ha,h=>by
  simp only[List.cons_append,pgo]at h ⊢
  have hp:=ha p (List.mem_cons_self ..)
  have ha':=fun x hx=>ha x (List.mem_cons_of_mem _ hx)
  cases h3:decide (p.kind=3) with
  |true=>
   rw[h3]at h
   simp only[cond_true,Bool.and_eq_true]at h ⊢
   refine⟨h.1,zkw hR hz hX A (r-1) ?_ ha' h.2⟩
   have:=h.1.1
   simp at this
   omega
  |false=>
   rw[h3]at h
   simp only[cond_false,Bool.and_eq_true]at h ⊢
   refine⟨h.1,zkw hR hz hX A _ ?_ ha' h.2⟩
   split
   ·have:=(hp.2 (by assumption)).1;omega
   ·exact h0
theorem zuS {l:List Page} {i n:Nat} (h:zaq l n i=true):l=l.take i++((l.drop i).take n++l.drop (i+n))/\∀p∈(l.drop i).take n,p.kind=0:=by
 refine⟨?_,fun p hp=>?_⟩
 ·rw[←List.drop_drop,List.take_append_drop,List.take_append_drop]
 ·unfold zaq at h
  rw[Bool.and_eq_true,List.all_eq_true]at h
  exact of_decide_eq_true (h.2 p hp)
theorem zsR {l:List Page} {i n:Nat} {X:List Page} (hm:zao l=true) (h:zaq l n i=true) (hn:1<=n) (hXn:X.length=n) (hX:∀B,pgo 0 B=true->pgo 0 (X++B)=true):zao (zbA l i X)=true:=by
 obtain⟨k1,k2⟩:=zay.1 h
 have hok:=(zag hm).1
 unfold zao at hm ⊢
 rw[Bool.and_eq_true,decide_eq_true_eq]at hm
 rw[zeh hXn h,Bool.and_eq_true,decide_eq_true_eq]
 refine⟨?_,hm.2⟩
 rw[zkx hXn h,List.append_assoc]
 obtain⟨e,hz⟩:=zuS h
 refine zkw (R:=(l.drop i).take n) (fun e=>?_) hz (hX _) (l.take i) 0 (Int.le_refl 0) (fun p hp=>?_) (by rw[←e];exact hm.1)
 ·have:=congrArg List.length e
  rw[List.length_take,List.length_drop]at this
  simp at this;omega
 ·exact zvY hm.1 p (List.mem_of_mem_take hp)
theorem zjh {l:List Page} {i:Nat} {k:Int} (hm:zao l=true) (h:zaq l 1 i=true) (hk:0<=k/\k<=2):zao (zbA l i [⟨1,k⟩])=true:=
 zsR hm h (Nat.le_refl _) rfl fun B hB=>by simp[pgo,zaj,hk,hB]
theorem zmp {B:List Page} (hB:pgo 0 B=true):∀n:Nat,pgo (n:Int) (List.replicate n ⟨3,0⟩++B)=true
 |0=>hB
 |n+1=>by
  rw[List.replicate_succ,List.cons_append,zl2 (by omega),show((n+1:Nat):Int)-1=(n:Int) by omega,zmp hB n]
  rfl
theorem zmV {l:List Page} {i n:Nat} (hm:zao l=true) (h:zaq l n i=true) (hn:1<=n) (h4:n<=4):zao (zbA l i (⟨2,n⟩::List.replicate (n-1) ⟨3,0⟩))=true:=
 zsR hm h hn (by simp;omega) fun B hB=>by
  have:=zmp hB (n-1)
  rw[show((n-1:Nat):Int)=(n:Int)-1 by omega]at this
  simp[pgo,zaj,this]
  omega
theorem zkc {l:List Page} {i:Nat} (hp:zbu (l.getD i default)) {a:Int} (h:a∈startsOn l i):16*((i:Int)+1)<=a/\a<16*((i:Int)+1)+16:=by
 unfold startsOn at h
 obtain⟨x,hx,rfl⟩:=List.mem_map.1 h
 rcases zgt hp hx with⟨hk,_,k,k1,k2⟩|⟨_,k⟩
 ·have hc:=hp.1 hk
  rcases zh8 hc with⟨w,v⟩|⟨w,v⟩|⟨w,v⟩<;>rw[w]at k2<;>rw[v]at k1<;>omega
 ·rw[k];show _<=16*((i:Int)+1)/\16*((i:Int)+1)<_;omega
theorem zfu (l:List Page) (i:Nat):(startsOn l i).length<=8:=by unfold startsOn;rw[List.length_map];exact zf5 _ _
theorem zl6 {l:List Page} {i:Nat} {k:Int} (hk:0<=k/\k<=2) (hi:i<l.length):2<=(startsOn (zbA l i [⟨1,k⟩]) i).length:=by
 have e:(zbA l i [⟨1,k⟩]).getD i default=⟨1,k⟩:=by
  rw[ziX (by show i+1<=l.length;omega),List.getD_eq_getElem?_getD,List.append_assoc,List.getElem?_append_right (by rw[List.length_take];omega),List.length_take,show i-min i l.length=0 by omega]
  rfl
 unfold startsOn
 rw[e,List.length_map]
 unfold zH
 rw[if_neg (show ¬(1:Int)=2 by decide),if_pos rfl,List.length_map,List.length_range]
 rcases zh8 hk with⟨_,v⟩|⟨_,v⟩|⟨_,v⟩<;>rw[v]<;>decide
def zV (g:Hp) (c:Lists) (k:Int):Int:=if c.at_ k=[]/\g.free.at_ k=[] then zet g else 0
def refG (g:Hp) (c:Lists) (k:Int):Hp:=if c.at_ k=[]/\g.free.at_ k=[] then zN g k else g
def zjM (g:Hp) (c:Lists) (k:Int):List Int:=if c.at_ k=[] then ((refG g c k).free.at_ k).take (leftOf ((refG g c k).free.at_ k).length 2) else g.free.at_ k
def zcA (g:Hp) (c:Lists) (k:Int):List Int:=if c.at_ k=[] then (((refG g c k).free.at_ k).drop (leftOf ((refG g c k).free.at_ k).length 2)).reverse else c.at_ k
def zW (g:Hp) (c:Lists) (k:Int):Hp:=if zV g c k=0 then (if c.at_ k=[] then {refG g c k with free:=(refG g c k).free.set_ k (zjM g c k)} else g) else g
def zb4 (g:Hp) (c:Lists) (k:Int):Lists:=if zV g c k=0 then c.set_ k ((zcA g c k).take ((zcA g c k).length-1)) else c
def zam (g:Hp) (c:Lists) (k:Int):Int:=if zV g c k=0 then at0 (zcA g c k) ((zcA g c k).length-1) else 0
theorem zbb {l:Lists} {c:Int} (h:0<=c/\c<=2) (x:List Int):(l.set_ c x).at_ c=x:=by rw[zf1 h h,if_pos rfl]
theorem zgF {l:Lists} {c:Int} (x y:List Int):(l.set_ c x).set_ c y=l.set_ c y:=by
 unfold Lists.set_
 split
 ·rfl
 ·split<;>rfl
theorem zeF (g:Hp):zet g=0\/zet g=4:=by
 unfold zet;split
 ·exact .inl rfl
 ·exact .inr rfl
theorem zu5 {g:Hp} {k:Int} (hk:0<=k/\k<=2) (h0:g.free.at_ k=[]) (he:zet g=0):2<=((zN g k).free.at_ k).length/\((zN g k).free.at_ k).length<=8:=by
 cases hf:za6 g.pages 1 with
 |none=>rw[(zaY hf k).2]at he;cases he
 |some i=>
  obtain⟨_,hil⟩:=zbO hf
  rw[(zaZ hf k).1]
  show 2<=((g.free.set_ k _).at_ k).length/\((g.free.set_ k _).at_ k).length<=8
  rw[zbb hk,h0,List.nil_append,List.length_reverse]
  exact⟨zl6 hk hil,zfu _ _⟩
theorem zlg {g:Hp} {c:Lists} {k:Int} (h:zV g c k≠0):zW g c k=g/\zb4 g c k=c/\zam g c k=0/\zV g c k=4/\c.at_ k=[]/\g.free.at_ k=[]/\zet g=4:=by
 unfold zW zb4 zam
 rw[if_neg h,if_neg h,if_neg h]
 unfold zV at h ⊢
 by_cases h1:c.at_ k=[]/\g.free.at_ k=[]
 ·rw[if_pos h1]at h ⊢
  have:=(zeF g).resolve_left h
  exact⟨rfl,rfl,rfl,this,h1.1,h1.2,this⟩
 ·rw[if_neg h1]at h;exact absurd rfl h
theorem zcJ {g:Hp} {c:Lists} {k:Int} (hk:0<=k/\k<=2) (he:zV g c k=0):0<(zcA g c k).length:=by
 unfold zcA
 by_cases h1:c.at_ k=[]
 ·rw[if_pos h1,List.length_reverse,List.length_drop]
  unfold refG leftOf
  by_cases h2:g.free.at_ k=[]
  ·rw[if_pos ⟨h1,h2⟩]
   unfold zV at he
   rw[if_pos ⟨h1,h2⟩]at he
   have:=zu5 hk h2 he
   show 0<_-(_-2)
   omega
  ·rw[if_neg (fun q=>h2 q.2)]
   have:0<(g.free.at_ k).length:=List.length_pos_iff.2 h2
   show 0<_-(_-2)
   omega
 ·rw[if_neg h1];exact List.length_pos_iff.2 h1
def zef (g:Hp) (n:Int):Option Nat:=za6 g.pages (zaD n).toNat
def zaO (g:Hp) (n:Int):Hp:=match zef g n with
 |some i=>{g with pages:=zbA g.pages i (⟨2,zaD n⟩::List.replicate ((zaD n).toNat-1) ⟨3,0⟩)}
 |none=>g
def zaV (g:Hp) (n:Int):Int:=match zef g n with
 |some i=>16*((i:Int)+1)
 |none=>0
def zcl (g:Hp) (n:Int):Int:=match zef g n with
 |some _=>0
 |none=>4
theorem zhY {g:Hp} {n:Int} {i:Nat} (h:zef g n=some i):zaO g n={g with pages:=zbA g.pages i (⟨2,zaD n⟩::List.replicate ((zaD n).toNat-1) ⟨3,0⟩)}/\zaV g n=16*((i:Int)+1)/\zcl g n=0:=by
 unfold zaO zaV zcl;rw[h];exact⟨rfl,rfl,rfl⟩
theorem zh7 {g:Hp} {n:Int} (h:zef g n=none):zaO g n=g/\zaV g n=0/\zcl g n=4:=by
 unfold zaO zaV zcl;rw[h];exact⟨rfl,rfl,rfl⟩
theorem zjj {l:List Page} (hm:zao l=true) {x:Int×Int}:x∈cellsAll l↔∃j,j<l.length/\x∈zH (l.getD j default) (16*((j:Int)+1)):=by
 constructor
 ·intro h
  obtain⟨_,j,hj⟩:=zac h
  exact⟨j,hj.lt,hj.mem⟩
 ·rintro⟨j,hj,hx⟩
  unfold cellsAll
  rw[if_pos hm]
  unfold zZ
  rw[List.drop_zero,List.mem_flatMap]
  exact⟨j,List.mem_range.2 hj,hx⟩
theorem ziL {l X:List Page} {i n:Nat} (hX:X.length=n) (h:zaq l n i=true) (j:Nat):(zbA l i X).getD j default=if i<=j/\j<i+n then X.getD (j-i) default else l.getD j default:=by
 obtain⟨h1,_⟩:=zay.1 h
 rw[zkx hX h,List.getD_eq_getElem?_getD,List.append_assoc]
 by_cases k1:j<i
 ·rw[if_neg (by omega),List.getElem?_append_left (by rw[List.length_take];omega),List.getElem?_take,if_pos k1,List.getD_eq_getElem?_getD]
 ·rw[List.getElem?_append_right (by rw[List.length_take];omega),List.length_take,show j-min i l.length=j-i by omega]
  by_cases k2:j<i+n
  ·rw[if_pos ⟨by omega,k2⟩,List.getElem?_append_left (by omega),List.getD_eq_getElem?_getD]
  ·rw[if_neg (by omega),List.getElem?_append_right (by omega),List.getElem?_drop,List.getD_eq_getElem?_getD,hX,show i+n+(j-i-n)=j by omega]
theorem zjp {l X:List Page} {i n:Nat} (hm:zao l=true) (hX:X.length=n) (h:zaq l n i=true) (hm' : zao (zbA l i X)=true) {x:Int×Int} :
  x∈cellsAll (zbA l i X)↔x∈cellsAll l\/∃j,i<=j/\j<i+n/\x∈zH (X.getD (j-i) default) (16*((j:Int)+1)):=by
 obtain⟨h1,h2⟩:=zay.1 h
 rw[zjj hm',zjj hm,zeh hX h]
 constructor
 ·rintro⟨j,hj,hx⟩
  rw[ziL hX h]at hx
  by_cases k:i<=j/\j<i+n
  ·rw[if_pos k]at hx;exact .inr ⟨j,k.1,k.2,hx⟩
  ·rw[if_neg k]at hx;exact .inl ⟨j,hj,hx⟩
 ·rintro (⟨j,hj,hx⟩|⟨j,k1,k2,hx⟩)
  ·refine⟨j,hj,?_⟩
   rw[ziL hX h,if_neg]
   ·exact hx
   ·rintro⟨k1,k2⟩
    have:=h2 (j-i) (by omega)
    rw[show i+(j-i)=j by omega]at this
    unfold zH at hx
    rw[if_neg (by omega),if_neg (by omega)]at hx
    cases hx
  ·refine⟨j,by omega,?_⟩
   rw[ziL hX h,if_pos ⟨k1,k2⟩]
   exact hx
theorem zj1 {l:List Page} (hm:zao l=true) {i:Nat} (hi:i<l.length) {a:Int} (h:a∈startsOn l i):ze l a≠0:=by
 unfold startsOn at h
 obtain⟨x,hx,rfl⟩:=List.mem_map.1 h
 have hc:=zc2 hi ((zag hm).1 i hi) hx
 rw[zby ((zjj hm).2 ⟨i,hi,hx⟩)]
 have:=hc.pos
 omega
theorem zvW {l:List Int} (h:0<l.length):at0 l (l.length-1)∈l:=by rw[zch (by omega)];exact List.getElem_mem _
theorem zmq {g:Hp} {cs:List Lists} (hm:zw g cs=true) {l:Lists} (hl:l∈g.free::cs) {k:Int} (hk:0<=k/\k<=2) {a:Int} (ha:a∈l.at_ k):ze g.pages a≠0/\zQ g a=⟨1,k⟩/\zf g a=0:=by
 have:=(zI.1 ((zai hm).2.1 l hl) k hk.1 hk.2 a ha)
 obtain⟨h1,h2,h3⟩:=of_decide_eq_true this
 exact⟨by omega,h2,h3⟩
theorem zpP {g:Hp} {c:Lists} {k:Int} (he:zV g c k=0):(zW g c k).pages=(refG g c k).pages/\(zW g c k).w=(refG g c k).w:=by
 unfold zW
 rw[if_pos he]
 split
 ·exact⟨rfl,rfl⟩
 ·rename_i h
  unfold refG
  rw[if_neg fun q=>h q.1]
  exact⟨rfl,rfl⟩
theorem zsz {g:Hp} {c:Lists} {cs:List Lists} {k:Int} (hm:zw g (c::cs)=true) (hk:0<=k/\k<=2) (he:zV g c k=0):ze (zW g c k).pages (zam g c k)≠0:=by
 have hgp:=zcJ hk he
 have hmem:=zvW hgp
 rw[(zpP he).1]
 unfold zam
 rw[if_pos he]
 generalize at0 (zcA g c k) ((zcA g c k).length-1)=a at *
 unfold zcA at hmem
 by_cases h1:c.at_ k=[]
 ·rw[if_pos h1,List.mem_reverse]at hmem
  have hmem:=List.mem_of_mem_drop hmem
  unfold refG at hmem ⊢
  by_cases h2:g.free.at_ k=[]
  ·unfold zV at he
   rw[if_pos ⟨h1,h2⟩]at he hmem ⊢
   obtain⟨_,hmp,_⟩:=zm (zF hm)
   cases hf:za6 g.pages 1 with
   |none=>rw[(zaY hf k).2]at he;cases he
   |some i=>
    obtain⟨hfr,hil⟩:=zbO hf
    rw[(zaZ hf k).1]at hmem ⊢
    have hmem:a∈(g.free.set_ k (g.free.at_ k++(startsOn (zbA g.pages i [⟨1,k⟩]) i).reverse)).at_ k:=hmem
    rw[zbb hk,h2,List.nil_append,List.mem_reverse]at hmem
    exact zj1 (zjh hmp hfr hk) (by rw[zeh rfl hfr];exact hil) hmem
  ·rw[if_neg fun q=>h2 q.2]at hmem ⊢
   exact(zmq hm (List.mem_cons_self ..) hk hmem).1
 ·rw[if_neg h1]at hmem
  unfold refG
  rw[if_neg fun q=>h1 q.1]
  exact(zmq hm (List.mem_cons_of_mem _ (List.mem_cons_self ..)) hk hmem).1
theorem zr7 {g:Hp} {c:Lists} {k:Int}:(zW g c k).w.length=g.w.length:=by
 unfold zW
 split
 ·split
  ·show(refG g c k).w.length=_
   unfold refG
   split
   ·cases hf:za6 g.pages 1 with
    |none=>rw[(zaY hf k).1]
    |some i=>rw[(zaZ hf k).1];exact zdS _ _
   ·rfl
  ·rfl
 ·rfl
theorem zsw {g:Hp} {c:Lists} {k:Int}:(zW g c k).pages.length=g.pages.length:=by
 unfold zW
 split
 ·split
  ·show(refG g c k).pages.length=_
   unfold refG
   split
   ·cases hf:za6 g.pages 1 with
    |none=>rw[(zaY hf k).1]
    |some i=>rw[(zaZ hf k).1];exact zeh rfl (zbO hf).1
   ·rfl
  ·rfl
 ·rfl
theorem zq4 {g:Hp} {n:Int} (hmp:zao g.pages=true) (hr:1<=zaD n/\zaD n<=4) (he:zcl g n=0):ze (zaO g n).pages (zaV g n)≠0/\(zaO g n).pages.length=g.pages.length:=by
 obtain⟨m,em⟩:∃m:Nat,zaD n=(m:Int):=⟨(zaD n).toNat,by omega⟩
 cases hf:zef g n with
 |none=>rw[(zh7 hf).2.2]at he;cases he
 |some i=>
  obtain⟨e1,e2,_⟩:=zhY hf
  unfold zef at hf
  rw[em]at hf e1
  have hf:za6 g.pages m=some i:=hf
  obtain⟨hfr,hil⟩:=zbO hf
  have hXl:((⟨2,(m:Int)⟩:Page)::List.replicate (m-1) ⟨3,0⟩).length=m:=by simp;omega
  rw[e1,e2]
  refine⟨?_,zeh hXl hfr⟩
  have hm':=zmV hmp hfr (by omega) (by omega)
  have:(16*((i:Int)+1),(m:Int)*16)∈cellsAll (zbA g.pages i (⟨2,(m:Int)⟩::List.replicate (m-1) ⟨3,0⟩)):=by
   rw[zjp hmp hXl hfr hm']
   refine .inr ⟨i,Nat.le_refl _,by omega,?_⟩
   rw[Nat.sub_self]
   show _∈zH ⟨2,(m:Int)⟩ _
   unfold zH
   rw[if_pos rfl]
   exact List.mem_singleton_self _
  rw[show Int.toNat (m:Int)=m from rfl,zby this]
  show(m:Int)*16≠0
  omega
def zaC (g:Hp) (c:Lists) (x:Hd):Int:=
 if zcy x≠0\/x.used=false\/zw g [c]=false then 1 else if zap x.n≠0 then zap x.n else if zC x.n=3 then zcl g x.n else zV g c (zC x.n)
def zke (g:Hp) (c:Lists) (x:Hd):Hp:=if zC x.n=3 then zaO g x.n else zW g c (zC x.n)
def zlb (g:Hp) (c:Lists) (x:Hd):Int:=if zC x.n=3 then zaV g x.n else zam g c (zC x.n)
def zuF (g:Hp) (c:Lists) (x:Hd):Lists:=if zC x.n=3 then c else zb4 g c (zC x.n)
def zbn (g:Hp) (a:Int) (v:Int):Hp:={g with w:=(zM g.w (a-16).toNat (List.replicate (ze g.pages a).toNat (0:Int))).set (a-16).toNat v}
def zeL (g:Hp) (c:Lists) (x:Hd):Hp:=if zaC g c x=0 then zbn (zke g c x) (zlb g c x) x.word else Hp.zero
def takeC (g:Hp) (c:Lists) (x:Hd):Lists:=if zaC g c x=0 then zuF g c x else Lists.zero
def takeA (g:Hp) (c:Lists) (x:Hd):Int:=if zaC g c x=0 then zlb g c x else 0
theorem zbv {g:Hp} {c:Lists} {x:Hd} (h:zaC g c x≠0):zeL g c x=Hp.zero/\takeC g c x=Lists.zero/\takeA g c x=0:=by
 unfold zeL takeC takeA;rw[if_neg h,if_neg h,if_neg h];exact⟨rfl,rfl,rfl⟩
theorem ziG {g:Hp} {c:Lists} {x:Hd} (h:zaC g c x=0):zeL g c x=zbn (zke g c x) (zlb g c x) x.word/\takeC g c x=zuF g c x/\takeA g c x=zlb g c x:=by
 unfold zeL takeC takeA;rw[if_pos h,if_pos h,if_pos h];exact⟨rfl,rfl,rfl⟩
theorem znR {n:Int} (h:zap n=0):1<=n/\n<=63/\0<=zC n/\zC n<=3/\(zC n=3->1<=zaD n/\zaD n<=4/\zdI n=0):=by
 have hn:1<=n/\n<=63:=by
  unfold zap at h
  by_cases h1:n<1
  ·rw[if_pos h1]at h;cases h
  ·by_cases h2:n>63
   ·rw[if_neg h1,if_pos h2]at h;cases h
   ·omega
 refine⟨hn.1,hn.2,?_,?_,fun h3=>?_⟩
 ·unfold zC;split;exact Int.le_refl _;split;exact Int.le_refl _;split;omega;split<;>omega
 ·unfold zC;split;omega;split;omega;split;omega;split<;>omega
 ·unfold zaD zdI
  rw[h,h3]
  simp
  omega
theorem ziQ {g:Hp} {c:Lists} {x:Hd} (h:zaC g c x=0):ze (zke g c x).pages (zlb g c x)≠0/\(zke g c x).pages.length=g.pages.length/\(zke g c x).w.length=g.w.length/\zw g [c]=true/\zcy x=0/\x.used=true/\zap x.n=0:=by
 unfold zaC at h
 split at h
 ·cases h
 ·rename_i h1
  have hp:zcy x=0:=Classical.byContradiction fun k=>h1 (.inl k)
  have hu:x.used=true:=by
   cases hu:x.used with
   |true=>rfl
   |false=>exact absurd (.inr (.inl hu)) h1
  have hm:zw g [c]=true:=by
   cases hm:zw g [c] with
   |true=>rfl
   |false=>exact absurd (.inr (.inr hm)) h1
  split at h
  ·contradiction
  ·rename_i h2
   have hc:zap x.n=0:=by simpa using h2
   obtain⟨c1,c2,c3,c4,c5⟩:=znR hc
   unfold zke zlb
   by_cases h3:zC x.n=3
   ·rw[if_pos h3]at h
    rw[if_pos h3,if_pos h3]
    obtain⟨r1,r2⟩:=zq4 (g:=g) (n:=x.n) (zm (zF hm)).2.1 ⟨(c5 h3).1,(c5 h3).2.1⟩ h
    refine⟨r1,r2,?_,hm,hp,hu,hc⟩
    unfold zaO
    split<;>rfl
   ·rw[if_neg h3]at h
    rw[if_neg h3,if_neg h3]
    exact⟨zsz hm ⟨c3,by omega⟩ h,zsw,zr7,hm,hp,hu,hc⟩
open Go.Proofs Go.Proofs.YtlankjlnnimdoaaGreatDoor
theorem zvr (l:List Page) (i:Nat) (hm:zao l=true) (hi:i<l.length):Spec X 267 [] [.c (.d (.sl .page l)),.int (i:Int)] (Ret [(0,.data .int (startsOn l i))] (.c (.own 0))):=by
 refine zGO X_ok Tryz.f267 fun hb hH=>⟨rfl,?_⟩
 have hmp:=zag hm
 have hcnd:(bif decide ((i:Int)<0) then true else decide ((i:Int)>=(l.length:Int)))=false:=by
  rw[decide_eq_false (show ¬(i:Int)<0 by omega),decide_eq_false (show ¬(i:Int)>=(l.length:Int) by omega)];rfl
 show AIf ..
 refine⟨fun _=>?_,fun h=>absurd ⟨(by exact hcnd),trivial⟩ h⟩
 show ACall ..
 refine za (zcO l) rfl ?_
 rw[hm]
 refine zNO (by decide) ?_
 show ACall ..
 refine za (zsI l (i:Int)) rfl ?_
 obtain⟨xs,hxs0⟩:∃xs,xs=zH (l.getD i default) (16*((i:Int)+1)):=⟨_,rfl⟩
 have hlen:xs.length<=8:=by rw[hxs0];exact zf5 _ _
 have he:startsOn l i=xs.map (·.1):=by rw[hxs0];rfl
 rw[he]
 have hsp:=fun L=>zpa L l i hi hmp.2.2 (hmp.1 i hi)
 rw[←hxs0]at hsp
 obtain⟨St,hSt⟩:∃St:List (Int×Int)->zh,St=fun r=>[(16,.vars [.own 1]),(1,.data .int ((xs.take (xs.length-r.length)).map (·.1)))]:=⟨_,rfl⟩
 have hS0:St xs=[(16,.vars [.own 1]),(1,.data .int ([]:List Int))]:=by rw[hSt];simp<;>rfl
 have hS1:St []=[(16,.vars [.own 1]),(1,.data .int (xs.map (·.1)))]:=by rw[hSt];simp<;>rfl
 show ARange _ _ _ _ _ _ _ _
 refine .mk ⟨[(5,.c (.ptr 1 0 0)),(22,.c (.d (.fn 139 [] [.rp [.sl .page l],.rp [DV.int i]])))],[(1,.vars [.d DV.nilsl])],160⟩ ?_ 139 [.rp [.sl .page l],.rp [DV.int i]] rfl xs 23 rfl [(1,16)] [(5,.c (.ptr 16 0 0))]
  (fun _=>True) St (fun _ _=>False) trivial (.cons _ _ _ (.c _ _ (.ptr _ _ _ _ rfl)) .nil) ?_ ?_ hsp ?_ (fun _=>?_) (fun e H h=>h.elim)
 ·exact⟨[(_,1)],.cons _ _ _ (.c _ _ (.ptr1 _ _ _ _)) (.cons _ _ _ .same .nil),.old 1 _ _ _ _ rfl rfl (.vars _ _ (.cons _ _ _ _ (.d _) .nil)) .nil,rfl⟩
 ·rw[hS0]
  exact .old 16 1 _ _ _ rfl rfl (.vars _ _ (.cons _ _ _ _ (.nilown 1 .int rfl rfl) .nil)) (.new 1 .int _ rfl .nil)
 ·rw[hS0];rfl
 ·intro pre x r hx _
  have h1:xs.take (xs.length-(x::r).length)=pre:=ziF hx
  have h2:xs.take (xs.length-r.length)=pre++[x]:=ziF (by rw[hx];simp)
  have hpre:pre.length<=512:=by rw[hx]at hlen;simp at hlen;omega
  rw[hSt]
  simp only[h1,h2]
  show AOb ((pre.map (·.1)).length+1<=zi) _
  refine⟨by rw[List.length_map];unfold zi;omega,?_⟩
  show AEnd _ _/\True
  refine⟨⟨[(_,1),(16,16)],.old 16 16 _ _ _ rfl rfl (.vars _ _ (.cons _ _ _ _ (.own1 _ _) .nil)) (.old 1 _ _ _ _ rfl rfl (.data_eq ?_) .nil),rfl⟩,trivial⟩
  exact(by simp:(pre.map (fun y:Int×Int=>y.1):List Int)++[x.1]=(pre++[x]).map (fun y=>y.1))
 ·rw[hS1]
  refine⟨rfl,?_⟩
  show ARet ..
  exact⟨[(_,0)],[(0,.data .int (xs.map (·.1)))],[.c (.own 0)],.cons _ _ _ _ (.c _ _ (.own1 _ _)) .nil,.old 0 _ _ _ _ rfl rfl (.data_eq rfl) .nil,rfl,rfl,rfl⟩
def frV (g:Hp) (c:Lists):List CV:=(g.enc++EK.enc .lists c).map .d
set_option maxRecDepth 60000 in
set_option maxHeartbeats 4000000 in
theorem zhs (g:Hp) (c:Lists) (k:Int) (hs:zD g=true) (hk:0<=k/\k<=2) (hok:g.free.ok) (hf:(g.free.at_ k).length+8<=zi):Spec X 253 [(16,.vars (frV g c))] [.c (.ptr 16 0 0),.int k] (fun H r=>H=[(16,.vars (frV (zN g k) c))]/\r = .int (zet g)):=by
 refine zGO X_ok Tryz.f253 fun hb hH=>⟨rfl,?_⟩
 obtain⟨hmw,hmp,hwl,hcl,_,h64⟩:=zm hs
 show ACall ..
 refine za (zlB g.pages 1 hmp (by decide) (by decide)) rfl ?_
 cases hfp:za6 g.pages 1 with
 |none=>
  rw[(zaY hfp k).1,(zaY hfp k).2]
  refine zYE (by decide) ?_
  show ARet ..
  exact⟨[(16,16)],[(16,.vars (frV g c))],[.int 4],.cons _ _ _ _ .same .nil,.old 16 16 _ _ _ rfl rfl (.vars _ _ (zb rfl)) .nil,rfl,rfl,rfl⟩
 |some i=>
  obtain⟨hfr,hil⟩:=zbO hfp
  rw[(zaZ hfp k).1,(zaZ hfp k).2]
  refine zNO (by simp) ?_
  show ACall ..
  refine za (zo3 g.pages i k hmp hk hfr) rfl ?_
  have hmp':=zjh hmp hfr hk
  have hlp:(zbA g.pages i [⟨1,k⟩]).length=g.pages.length:=ztN _ _ _ hil
  show ACall ..
  refine .mk _ (zvr (zbA g.pages i [⟨1,k⟩]) i hmp' (by omega)) fun H r ⟨eH,er⟩ _ _=>⟨.inl rfl,?_⟩
  subst eH er
  obtain⟨L,hL⟩:∃L,L=zbA g.pages i [⟨1,k⟩]:=⟨_,rfl⟩
  rw[←hL]at hmp' hlp ⊢
  have hin:∀a∈startsOn L i,16<=a/\a<16+(g.w.length:Int):=fun a ha=>by
   have:=zkc ((zag hmp').1 i (by omega)) ha
   omega
  have hsl:=zfu L i
  generalize startsOn L i=O at *
  show ACall ..
  refine .hand [(1184,16)] [(16,.data .int O)] [.c (.view 16 0 O.length)] _ (.cons _ _ _ _ (.c _ _ (.whole _ _ _ rfl rfl)) .nil) (.old 16 1184 _ _ _ rfl rfl (.data_eq rfl) .nil) rfl (zdG O 0 O.length (by omega)) ?_
  rintro H r ⟨rfl,rfl⟩ _ _
  refine⟨rfl,.inl rfl,?_⟩
  have er:zcH O 0 O.length=O.reverse:=by unfold zcH;simp
  have el:((zcH O 0 O.length).length:Int)=(O.length:Int):=by rw[er,List.length_reverse]
  have hrl:O.reverse.length=O.length:=List.length_reverse
  have hin' : ∀a∈O.reverse,16<=a/\a<16+(g.w.length:Int):=fun a ha=>hin a (List.mem_reverse.1 ha)
  show ∃n,_
  refine⟨0,ALoop.inv (ι:={j:Nat // j<=O.length}) (fun q=>⟨[(0,.c (.ptr 16 0 0)),(1,.int (k)),(7,.c (.d (.sl .int (O.reverse)))),(45,.c (.d (.sl .int (O.reverse)))),(46,.int ((O.length:Int))),(47,.int ((q.1:Int)))],[(16,.vars (frV {g with w:=zcI g.w (O.reverse.take q.1),pages:=L} c))],64⟩) (fun q=>O.length-q.1) ⟨0,Nat.zero_le _⟩ ?_ ?_⟩
  ·exact⟨[(16,16)],(by repeat' first|exact .nil|refine .cons _ _ _ ?_ ?_|exact .frz (k:=.int) rfl er|exact .int_eq el|exact .same|exact .c _ _ (.own _ _ rfl)|exact .c _ _ (.ptr _ _ _ _ rfl)|exact .c _ _ (.frz _ _ rfl)|exact .any _),(by exact .old 16 16 _ _ _ rfl rfl (.vars _ _ (zb rfl)) .nil),(by rfl)⟩
  rintro⟨j,hj⟩
  have hj:j<=O.length:=hj
  show ABr (decide ((j:Int)<(O.length:Int))) _ _
  refine⟨fun h=>?_,fun h=>?_⟩
  ·have hjl:j<O.reverse.length:=by have:=of_decide_eq_true h;omega
   have wj:IntKind.i64.wrap ((j:Int)+1)=((j+1:Nat):Int):=zP (i:=j) (by unfold zA;omega)
   show AOb ((0:Int)<=(j:Int)/\(j:Int)<(O.reverse.length:Int)) _
   refine⟨by omega,?_⟩
   have ha:16<=at0 O.reverse j/\at0 O.reverse j<16+(g.w.length:Int):=hin' _ (by rw[zch hjl];exact List.getElem_mem hjl)
   have hmz:zba (zcI g.w (O.reverse.take j))=true:=by unfold zba at hmw ⊢;rw[zdS];exact hmw
   show ACall ..
   refine za (ze8 (zcI g.w (O.reverse.take j)) (at0 O.reverse j) 0 hmz (by rw[zdS];exact ha)) rfl ?_
   have ez:zcI g.w (O.reverse.take (j+1))=(zcI g.w (O.reverse.take j)).set (at0 O.reverse j-16).toNat 0:=by
    rw[List.take_succ_eq_append_getElem hjl,zlZ,zch hjl]
   show ARound ..
   exact⟨⟨j+1,by omega⟩,(by dsimp only;omega),[(16,16)],(by repeat' first|exact .nil|refine .cons _ _ _ ?_ ?_|exact .int_eq wj|exact .same|exact .c _ _ (.own _ _ rfl)|exact .c _ _ (.ptr _ _ _ _ rfl)|exact .c _ _ (.frz _ _ rfl)|exact .any _),(by exact .old 16 16 _ _ _ rfl rfl (.vars _ _ (by rw[ez];exact zb rfl)) .nil),(by rfl)⟩
  ·have hjl:j=O.length:=by have:=of_decide_eq_false h;omega
   have et:O.reverse.take j=O.reverse:=by rw[List.take_of_length_le (by omega)]
   rw[et]
   show ACall ..
   refine za (zeW g.free k O.reverse hk hok (by omega)) rfl ?_
   show ARet ..
   exact⟨[(16,16)],[(16,.vars (frV ⟨zcI g.w O.reverse,L,g.free.set_ k (g.free.at_ k++O.reverse),g.cards⟩ c))],[.int 0],.cons _ _ _ _ .same .nil,.old 16 16 _ _ _ rfl rfl (.vars _ _ (zb rfl)) .nil,rfl,rfl,rfl⟩
theorem zeU {l:Lists} (h:l.ok) (k:Int):(l.at_ k).length<=zi:=by
 unfold Lists.at_
 split
 ·exact h.1
 ·split
  ·exact h.2.1
  ·exact h.2.2
theorem zon {g:Hp} {k:Int} (hk:0<=k/\k<=2) (hok:g.free.ok) (hf:(g.free.at_ k).length+8<=zi):(zN g k).free.ok:=by
 cases h:za6 g.pages 1 with
 |none=>rw[(zaY h k).1];exact hok
 |some i=>
  rw[(zaZ h k).1]
  refine zeQ hok ?_
  rw[List.length_append,List.length_reverse]
  have:=zfu (zbA g.pages i [⟨1,k⟩]) i
  omega
set_option maxRecDepth 60000 in
set_option maxHeartbeats 4000000 in
theorem zqx (g:Hp) (c:Lists) (k:Int) (hs:zD g=true) (hk:0<=k/\k<=2) (hok:g.free.ok) (hco:c.ok) (hf:(g.free.at_ k).length+8<=zi) (hfc:(g.free.at_ k).length+(c.at_ k).length<=zi):Spec X 232 [(16,.vars (frV g c))] [.c (.ptr 16 0 0),.int k] (fun H r=>H=[(16,.vars (frV (zW g c k) (zb4 g c k)))]/\r = .tup [.int (zam g c k),.int (zV g c k)]):=by
 refine zGO X_ok Tryz.f232 fun hb hH=>⟨rfl,?_⟩
 have hkk:k=0\/k=1\/k=2:=by omega
 rcases hkk with rfl|rfl|rfl
 ·show AOb ..
  refine⟨by decide,?_⟩
  show ABr (decide (((c.l0).length:Int)=0)) _ _
  by_cases h1:c.at_ 0=[]
  ·have h1' : c.l0=[]:=h1
   rw[show decide (((c.l0).length:Int)=0)=true by rw[h1'];rfl]
   refine zYE (by decide) ?_
   show AOb ..
   refine⟨by decide,?_⟩
   show ABr (decide (((g.free.l0).length:Int)=0)) _ _
   by_cases h2:g.free.at_ 0=[]
   ·have h2' : g.free.l0=[]:=h2
    rw[show decide (((g.free.l0).length:Int)=0)=true by rw[h2'];rfl]
    refine zYE (by decide) ?_
    show ACall ..
    refine .hand [(16,16)] [(16,.vars (frV g c))] [.c (.ptr 16 0 0),.int 0] _ (.cons _ _ _ _ (.c _ _ (.ptr _ _ _ _ rfl)) (.cons _ _ _ _ .same .nil)) (.old 16 16 _ _ _ rfl rfl (.vars _ _ (zb rfl)) .nil) rfl (zhs g c 0 hs hk hok hf) ?_
    rintro H r ⟨rfl,rfl⟩ _ _
    refine⟨rfl,.inl rfl,?_⟩
    show ABr (zet g != 0) _ _
    rcases zeF g with he|he
    ·rw[he]
     refine zNO (by decide) ?_
     have eE:zV g c 0=0:=by unfold zV;rw[if_pos ⟨h1,h2⟩];exact he
     have eR:refG g c 0=zN g 0:=by unfold refG;rw[if_pos ⟨h1,h2⟩]
     have hgp:=zcJ hk eE
     have okR:(zN g 0).free.ok:=zon hk hok hf
     unfold zW zb4 zam
     rw[if_pos eE,if_pos eE,if_pos eE,if_pos h1,eE]
     unfold zjM zcA at *
     rw[if_pos h1]at hgp
     rw[if_pos h1,if_pos h1,eR]
     rw[eR]at hgp
     have hgl:((((zN g 0)).free.at_ 0).drop (leftOf (((zN g 0)).free.at_ 0).length 2)).reverse.length<=zi:=by rw[List.length_reverse,List.length_drop];have:=zeU okR 0;omega
     have sp:=zdO ((zN g 0)).free c 0 2 ⟨by decide,by decide⟩ (by decide) (by decide) okR hco (by rw[h1];exact zeU okR 0)
     rw[h1,List.nil_append]at sp
     show ADCall ..
     refine .mk _ _ (sp) rfl ?_
     have sq:=zcE (c.set_ 0 ((((zN g 0)).free.at_ 0).drop (leftOf (((zN g 0)).free.at_ 0).length 2)).reverse) 0 ⟨by decide,by decide⟩ (zeQ hco hgl) (by rw[zbb ⟨by decide,by decide⟩];exact hgp)
     rw[zgF,zbb ⟨by decide,by decide⟩]at sq
     show ACall ..
     refine za (sq) rfl ?_
     show ARet ..
     exact⟨[(16,16)],[(16,.vars (frV {(zN g 0) with free:=((zN g 0)).free.set_ 0 ((((zN g 0)).free.at_ 0).take (leftOf (((zN g 0)).free.at_ 0).length 2))} (c.set_ 0 ((((((zN g 0)).free.at_ 0).drop (leftOf (((zN g 0)).free.at_ 0).length 2)).reverse).take ((((((zN g 0)).free.at_ 0).drop (leftOf (((zN g 0)).free.at_ 0).length 2)).reverse).length-1)))))],[.int (at0 ((((zN g 0)).free.at_ 0).drop (leftOf (((zN g 0)).free.at_ 0).length 2)).reverse (((((zN g 0)).free.at_ 0).drop (leftOf (((zN g 0)).free.at_ 0).length 2)).reverse.length-1)),.int 0],.cons _ _ _ _ .same (.cons _ _ _ _ .same .nil),.old 16 16 _ _ _ rfl rfl (.vars _ _ (zb rfl)) .nil,rfl,rfl,rfl⟩
    ·rw[he]
     refine zYE (by decide) ?_
     have eE:zV g c 0=4:=by unfold zV;rw[if_pos ⟨h1,h2⟩];exact he
     obtain⟨e1,e2,e3,_⟩:=zlg (g:=g) (c:=c) (k:=0) (by rw[eE];decide)
     have eP:zN g 0=g:=by
      cases hfp:za6 g.pages 1 with
      |none=>exact(zaY hfp 0).1
      |some i=>rw[(zaZ hfp 0).2]at he;cases he
     rw[e1,e2,e3,eE,eP]
     show ARet ..
     exact⟨[(16,16)],[(16,.vars (frV g c))],[.int 0,.int 4],.cons _ _ _ _ .same (.cons _ _ _ _ .same .nil),.old 16 16 _ _ _ rfl rfl (.vars _ _ (zb rfl)) .nil,rfl,rfl,rfl⟩
   ·have h2' : g.free.l0≠[]:=h2
    rw[show decide (((g.free.l0).length:Int)=0)=false from decide_eq_false fun q=>h2' (List.eq_nil_of_length_eq_zero (by omega))]
    refine zNO (by decide) ?_
    have eE:zV g c 0=0:=by unfold zV;rw[if_neg fun q=>h2 q.2]
    have eR:refG g c 0=g:=by unfold refG;rw[if_neg fun q=>h2 q.2]
    have hgp:=zcJ hk eE
    have okR:=hok
    unfold zW zb4 zam
    rw[if_pos eE,if_pos eE,if_pos eE,if_pos h1,eE]
    unfold zjM zcA at *
    rw[if_pos h1]at hgp
    rw[if_pos h1,if_pos h1,eR]
    rw[eR]at hgp
    have hgl:(((g).free.at_ 0).drop (leftOf ((g).free.at_ 0).length 2)).reverse.length<=zi:=by rw[List.length_reverse,List.length_drop];have:=zeU okR 0;omega
    have sp:=zdO (g).free c 0 2 ⟨by decide,by decide⟩ (by decide) (by decide) okR hco (by rw[h1];exact zeU okR 0)
    rw[h1,List.nil_append]at sp
    show ADCall ..
    refine .mk _ _ (sp) rfl ?_
    have sq:=zcE (c.set_ 0 (((g).free.at_ 0).drop (leftOf ((g).free.at_ 0).length 2)).reverse) 0 ⟨by decide,by decide⟩ (zeQ hco hgl) (by rw[zbb ⟨by decide,by decide⟩];exact hgp)
    rw[zgF,zbb ⟨by decide,by decide⟩]at sq
    show ACall ..
    refine za (sq) rfl ?_
    show ARet ..
    exact⟨[(16,16)],[(16,.vars (frV {g with free:=(g).free.set_ 0 (((g).free.at_ 0).take (leftOf ((g).free.at_ 0).length 2))} (c.set_ 0 (((((g).free.at_ 0).drop (leftOf ((g).free.at_ 0).length 2)).reverse).take (((((g).free.at_ 0).drop (leftOf ((g).free.at_ 0).length 2)).reverse).length-1)))))],[.int (at0 (((g).free.at_ 0).drop (leftOf ((g).free.at_ 0).length 2)).reverse ((((g).free.at_ 0).drop (leftOf ((g).free.at_ 0).length 2)).reverse.length-1)),.int 0],.cons _ _ _ _ .same (.cons _ _ _ _ .same .nil),.old 16 16 _ _ _ rfl rfl (.vars _ _ (zb rfl)) .nil,rfl,rfl,rfl⟩
  ·have h1' : c.l0≠[]:=h1
   rw[show decide (((c.l0).length:Int)=0)=false from decide_eq_false fun q=>h1' (List.eq_nil_of_length_eq_zero (by omega))]
   refine zNO (by decide) ?_
   have eE:zV g c 0=0:=by unfold zV;rw[if_neg fun q=>h1 q.1]
   have hgp:=zcJ hk eE
   unfold zW zb4 zam
   rw[if_pos eE,if_pos eE,if_pos eE,if_neg h1,eE]
   unfold zcA at *
   rw[if_neg h1]at hgp
   rw[if_neg h1]
   show ACall ..
   refine za (zcE c 0 ⟨by decide,by decide⟩ hco hgp) rfl ?_
   show ARet ..
   exact⟨[(16,16)],[(16,.vars (frV g (c.set_ 0 ((c.at_ 0).take ((c.at_ 0).length-1)))))],[.int (at0 (c.at_ 0) ((c.at_ 0).length-1)),.int 0],.cons _ _ _ _ .same (.cons _ _ _ _ .same .nil),.old 16 16 _ _ _ rfl rfl (.vars _ _ (zb rfl)) .nil,rfl,rfl,rfl⟩
 ·show AOb ..
  refine⟨by decide,?_⟩
  show ABr (decide (((c.l1).length:Int)=0)) _ _
  by_cases h1:c.at_ 1=[]
  ·have h1' : c.l1=[]:=h1
   rw[show decide (((c.l1).length:Int)=0)=true by rw[h1'];rfl]
   refine zYE (by decide) ?_
   show AOb ..
   refine⟨by decide,?_⟩
   show ABr (decide (((g.free.l1).length:Int)=0)) _ _
   by_cases h2:g.free.at_ 1=[]
   ·have h2' : g.free.l1=[]:=h2
    rw[show decide (((g.free.l1).length:Int)=0)=true by rw[h2'];rfl]
    refine zYE (by decide) ?_
    show ACall ..
    refine .hand [(16,16)] [(16,.vars (frV g c))] [.c (.ptr 16 0 0),.int 1] _ (.cons _ _ _ _ (.c _ _ (.ptr _ _ _ _ rfl)) (.cons _ _ _ _ .same .nil)) (.old 16 16 _ _ _ rfl rfl (.vars _ _ (zb rfl)) .nil) rfl (zhs g c 1 hs hk hok hf) ?_
    rintro H r ⟨rfl,rfl⟩ _ _
    refine⟨rfl,.inl rfl,?_⟩
    show ABr (zet g != 0) _ _
    rcases zeF g with he|he
    ·rw[he]
     refine zNO (by decide) ?_
     have eE:zV g c 1=0:=by unfold zV;rw[if_pos ⟨h1,h2⟩];exact he
     have eR:refG g c 1=zN g 1:=by unfold refG;rw[if_pos ⟨h1,h2⟩]
     have hgp:=zcJ hk eE
     have okR:(zN g 1).free.ok:=zon hk hok hf
     unfold zW zb4 zam
     rw[if_pos eE,if_pos eE,if_pos eE,if_pos h1,eE]
     unfold zjM zcA at *
     rw[if_pos h1]at hgp
     rw[if_pos h1,if_pos h1,eR]
     rw[eR]at hgp
     have hgl:((((zN g 1)).free.at_ 1).drop (leftOf (((zN g 1)).free.at_ 1).length 2)).reverse.length<=zi:=by rw[List.length_reverse,List.length_drop];have:=zeU okR 1;omega
     have sp:=zdO ((zN g 1)).free c 1 2 ⟨by decide,by decide⟩ (by decide) (by decide) okR hco (by rw[h1];exact zeU okR 1)
     rw[h1,List.nil_append]at sp
     show ADCall ..
     refine .mk _ _ (sp) rfl ?_
     have sq:=zcE (c.set_ 1 ((((zN g 1)).free.at_ 1).drop (leftOf (((zN g 1)).free.at_ 1).length 2)).reverse) 1 ⟨by decide,by decide⟩ (zeQ hco hgl) (by rw[zbb ⟨by decide,by decide⟩];exact hgp)
     rw[zgF,zbb ⟨by decide,by decide⟩]at sq
     show ACall ..
     refine za (sq) rfl ?_
     show ARet ..
     exact⟨[(16,16)],[(16,.vars (frV {(zN g 1) with free:=((zN g 1)).free.set_ 1 ((((zN g 1)).free.at_ 1).take (leftOf (((zN g 1)).free.at_ 1).length 2))} (c.set_ 1 ((((((zN g 1)).free.at_ 1).drop (leftOf (((zN g 1)).free.at_ 1).length 2)).reverse).take ((((((zN g 1)).free.at_ 1).drop (leftOf (((zN g 1)).free.at_ 1).length 2)).reverse).length-1)))))],[.int (at0 ((((zN g 1)).free.at_ 1).drop (leftOf (((zN g 1)).free.at_ 1).length 2)).reverse (((((zN g 1)).free.at_ 1).drop (leftOf (((zN g 1)).free.at_ 1).length 2)).reverse.length-1)),.int 0],.cons _ _ _ _ .same (.cons _ _ _ _ .same .nil),.old 16 16 _ _ _ rfl rfl (.vars _ _ (zb rfl)) .nil,rfl,rfl,rfl⟩
    ·rw[he]
     refine zYE (by decide) ?_
     have eE:zV g c 1=4:=by unfold zV;rw[if_pos ⟨h1,h2⟩];exact he
     obtain⟨e1,e2,e3,_⟩:=zlg (g:=g) (c:=c) (k:=1) (by rw[eE];decide)
     have eP:zN g 1=g:=by
      cases hfp:za6 g.pages 1 with
      |none=>exact(zaY hfp 1).1
      |some i=>rw[(zaZ hfp 1).2]at he;cases he
     rw[e1,e2,e3,eE,eP]
     show ARet ..
     exact⟨[(16,16)],[(16,.vars (frV g c))],[.int 0,.int 4],.cons _ _ _ _ .same (.cons _ _ _ _ .same .nil),.old 16 16 _ _ _ rfl rfl (.vars _ _ (zb rfl)) .nil,rfl,rfl,rfl⟩
   ·have h2' : g.free.l1≠[]:=h2
    rw[show decide (((g.free.l1).length:Int)=0)=false from decide_eq_false fun q=>h2' (List.eq_nil_of_length_eq_zero (by omega))]
    refine zNO (by decide) ?_
    have eE:zV g c 1=0:=by unfold zV;rw[if_neg fun q=>h2 q.2]
    have eR:refG g c 1=g:=by unfold refG;rw[if_neg fun q=>h2 q.2]
    have hgp:=zcJ hk eE
    have okR:=hok
    unfold zW zb4 zam
    rw[if_pos eE,if_pos eE,if_pos eE,if_pos h1,eE]
    unfold zjM zcA at *
    rw[if_pos h1]at hgp
    rw[if_pos h1,if_pos h1,eR]
    rw[eR]at hgp
    have hgl:(((g).free.at_ 1).drop (leftOf ((g).free.at_ 1).length 2)).reverse.length<=zi:=by rw[List.length_reverse,List.length_drop];have:=zeU okR 1;omega
    have sp:=zdO (g).free c 1 2 ⟨by decide,by decide⟩ (by decide) (by decide) okR hco (by rw[h1];exact zeU okR 1)
    rw[h1,List.nil_append]at sp
    show ADCall ..
    refine .mk _ _ (sp) rfl ?_
    have sq:=zcE (c.set_ 1 (((g).free.at_ 1).drop (leftOf ((g).free.at_ 1).length 2)).reverse) 1 ⟨by decide,by decide⟩ (zeQ hco hgl) (by rw[zbb ⟨by decide,by decide⟩];exact hgp)
    rw[zgF,zbb ⟨by decide,by decide⟩]at sq
    show ACall ..
    refine za (sq) rfl ?_
    show ARet ..
    exact⟨[(16,16)],[(16,.vars (frV {g with free:=(g).free.set_ 1 (((g).free.at_ 1).take (leftOf ((g).free.at_ 1).length 2))} (c.set_ 1 (((((g).free.at_ 1).drop (leftOf ((g).free.at_ 1).length 2)).reverse).take (((((g).free.at_ 1).drop (leftOf ((g).free.at_ 1).length 2)).reverse).length-1)))))],[.int (at0 (((g).free.at_ 1).drop (leftOf ((g).free.at_ 1).length 2)).reverse ((((g).free.at_ 1).drop (leftOf ((g).free.at_ 1).length 2)).reverse.length-1)),.int 0],.cons _ _ _ _ .same (.cons _ _ _ _ .same .nil),.old 16 16 _ _ _ rfl rfl (.vars _ _ (zb rfl)) .nil,rfl,rfl,rfl⟩
  ·have h1' : c.l1≠[]:=h1
   rw[show decide (((c.l1).length:Int)=0)=false from decide_eq_false fun q=>h1' (List.eq_nil_of_length_eq_zero (by omega))]
   refine zNO (by decide) ?_
   have eE:zV g c 1=0:=by unfold zV;rw[if_neg fun q=>h1 q.1]
   have hgp:=zcJ hk eE
   unfold zW zb4 zam
   rw[if_pos eE,if_pos eE,if_pos eE,if_neg h1,eE]
   unfold zcA at *
   rw[if_neg h1]at hgp
   rw[if_neg h1]
   show ACall ..
   refine za (zcE c 1 ⟨by decide,by decide⟩ hco hgp) rfl ?_
   show ARet ..
   exact⟨[(16,16)],[(16,.vars (frV g (c.set_ 1 ((c.at_ 1).take ((c.at_ 1).length-1)))))],[.int (at0 (c.at_ 1) ((c.at_ 1).length-1)),.int 0],.cons _ _ _ _ .same (.cons _ _ _ _ .same .nil),.old 16 16 _ _ _ rfl rfl (.vars _ _ (zb rfl)) .nil,rfl,rfl,rfl⟩
 ·show AOb ..
  refine⟨by decide,?_⟩
  show ABr (decide (((c.l2).length:Int)=0)) _ _
  by_cases h1:c.at_ 2=[]
  ·have h1' : c.l2=[]:=h1
   rw[show decide (((c.l2).length:Int)=0)=true by rw[h1'];rfl]
   refine zYE (by decide) ?_
   show AOb ..
   refine⟨by decide,?_⟩
   show ABr (decide (((g.free.l2).length:Int)=0)) _ _
   by_cases h2:g.free.at_ 2=[]
   ·have h2' : g.free.l2=[]:=h2
    rw[show decide (((g.free.l2).length:Int)=0)=true by rw[h2'];rfl]
    refine zYE (by decide) ?_
    show ACall ..
    refine .hand [(16,16)] [(16,.vars (frV g c))] [.c (.ptr 16 0 0),.int 2] _ (.cons _ _ _ _ (.c _ _ (.ptr _ _ _ _ rfl)) (.cons _ _ _ _ .same .nil)) (.old 16 16 _ _ _ rfl rfl (.vars _ _ (zb rfl)) .nil) rfl (zhs g c 2 hs hk hok hf) ?_
    rintro H r ⟨rfl,rfl⟩ _ _
    refine⟨rfl,.inl rfl,?_⟩
    show ABr (zet g != 0) _ _
    rcases zeF g with he|he
    ·rw[he]
     refine zNO (by decide) ?_
     have eE:zV g c 2=0:=by unfold zV;rw[if_pos ⟨h1,h2⟩];exact he
     have eR:refG g c 2=zN g 2:=by unfold refG;rw[if_pos ⟨h1,h2⟩]
     have hgp:=zcJ hk eE
     have okR:(zN g 2).free.ok:=zon hk hok hf
     unfold zW zb4 zam
     rw[if_pos eE,if_pos eE,if_pos eE,if_pos h1,eE]
     unfold zjM zcA at *
     rw[if_pos h1]at hgp
     rw[if_pos h1,if_pos h1,eR]
     rw[eR]at hgp
     have hgl:((((zN g 2)).free.at_ 2).drop (leftOf (((zN g 2)).free.at_ 2).length 2)).reverse.length<=zi:=by rw[List.length_reverse,List.length_drop];have:=zeU okR 2;omega
     have sp:=zdO ((zN g 2)).free c 2 2 ⟨by decide,by decide⟩ (by decide) (by decide) okR hco (by rw[h1];exact zeU okR 2)
     rw[h1,List.nil_append]at sp
     show ADCall ..
     refine .mk _ _ (sp) rfl ?_
     have sq:=zcE (c.set_ 2 ((((zN g 2)).free.at_ 2).drop (leftOf (((zN g 2)).free.at_ 2).length 2)).reverse) 2 ⟨by decide,by decide⟩ (zeQ hco hgl) (by rw[zbb ⟨by decide,by decide⟩];exact hgp)
     rw[zgF,zbb ⟨by decide,by decide⟩]at sq
     show ACall ..
     refine za (sq) rfl ?_
     show ARet ..
     exact⟨[(16,16)],[(16,.vars (frV {(zN g 2) with free:=((zN g 2)).free.set_ 2 ((((zN g 2)).free.at_ 2).take (leftOf (((zN g 2)).free.at_ 2).length 2))} (c.set_ 2 ((((((zN g 2)).free.at_ 2).drop (leftOf (((zN g 2)).free.at_ 2).length 2)).reverse).take ((((((zN g 2)).free.at_ 2).drop (leftOf (((zN g 2)).free.at_ 2).length 2)).reverse).length-1)))))],[.int (at0 ((((zN g 2)).free.at_ 2).drop (leftOf (((zN g 2)).free.at_ 2).length 2)).reverse (((((zN g 2)).free.at_ 2).drop (leftOf (((zN g 2)).free.at_ 2).length 2)).reverse.length-1)),.int 0],.cons _ _ _ _ .same (.cons _ _ _ _ .same .nil),.old 16 16 _ _ _ rfl rfl (.vars _ _ (zb rfl)) .nil,rfl,rfl,rfl⟩
    ·rw[he]
     refine zYE (by decide) ?_
     have eE:zV g c 2=4:=by unfold zV;rw[if_pos ⟨h1,h2⟩];exact he
     obtain⟨e1,e2,e3,_⟩:=zlg (g:=g) (c:=c) (k:=2) (by rw[eE];decide)
     have eP:zN g 2=g:=by
      cases hfp:za6 g.pages 1 with
      |none=>exact(zaY hfp 2).1
      |some i=>rw[(zaZ hfp 2).2]at he;cases he
     rw[e1,e2,e3,eE,eP]
     show ARet ..
     exact⟨[(16,16)],[(16,.vars (frV g c))],[.int 0,.int 4],.cons _ _ _ _ .same (.cons _ _ _ _ .same .nil),.old 16 16 _ _ _ rfl rfl (.vars _ _ (zb rfl)) .nil,rfl,rfl,rfl⟩
   ·have h2' : g.free.l2≠[]:=h2
    rw[show decide (((g.free.l2).length:Int)=0)=false from decide_eq_false fun q=>h2' (List.eq_nil_of_length_eq_zero (by omega))]
    refine zNO (by decide) ?_
    have eE:zV g c 2=0:=by unfold zV;rw[if_neg fun q=>h2 q.2]
    have eR:refG g c 2=g:=by unfold refG;rw[if_neg fun q=>h2 q.2]
    have hgp:=zcJ hk eE
    have okR:=hok
    unfold zW zb4 zam
    rw[if_pos eE,if_pos eE,if_pos eE,if_pos h1,eE]
    unfold zjM zcA at *
    rw[if_pos h1]at hgp
    rw[if_pos h1,if_pos h1,eR]
    rw[eR]at hgp
    have hgl:(((g).free.at_ 2).drop (leftOf ((g).free.at_ 2).length 2)).reverse.length<=zi:=by rw[List.length_reverse,List.length_drop];have:=zeU okR 2;omega
    have sp:=zdO (g).free c 2 2 ⟨by decide,by decide⟩ (by decide) (by decide) okR hco (by rw[h1];exact zeU okR 2)
    rw[h1,List.nil_append]at sp
    show ADCall ..
    refine .mk _ _ (sp) rfl ?_
    have sq:=zcE (c.set_ 2 (((g).free.at_ 2).drop (leftOf ((g).free.at_ 2).length 2)).reverse) 2 ⟨by decide,by decide⟩ (zeQ hco hgl) (by rw[zbb ⟨by decide,by decide⟩];exact hgp)
    rw[zgF,zbb ⟨by decide,by decide⟩]at sq
    show ACall ..
    refine za (sq) rfl ?_
    show ARet ..
    exact⟨[(16,16)],[(16,.vars (frV {g with free:=(g).free.set_ 2 (((g).free.at_ 2).take (leftOf ((g).free.at_ 2).length 2))} (c.set_ 2 (((((g).free.at_ 2).drop (leftOf ((g).free.at_ 2).length 2)).reverse).take (((((g).free.at_ 2).drop (leftOf ((g).free.at_ 2).length 2)).reverse).length-1)))))],[.int (at0 (((g).free.at_ 2).drop (leftOf ((g).free.at_ 2).length 2)).reverse ((((g).free.at_ 2).drop (leftOf ((g).free.at_ 2).length 2)).reverse.length-1)),.int 0],.cons _ _ _ _ .same (.cons _ _ _ _ .same .nil),.old 16 16 _ _ _ rfl rfl (.vars _ _ (zb rfl)) .nil,rfl,rfl,rfl⟩
  ·have h1' : c.l2≠[]:=h1
   rw[show decide (((c.l2).length:Int)=0)=false from decide_eq_false fun q=>h1' (List.eq_nil_of_length_eq_zero (by omega))]
   refine zNO (by decide) ?_
   have eE:zV g c 2=0:=by unfold zV;rw[if_neg fun q=>h1 q.1]
   have hgp:=zcJ hk eE
   unfold zW zb4 zam
   rw[if_pos eE,if_pos eE,if_pos eE,if_neg h1,eE]
   unfold zcA at *
   rw[if_neg h1]at hgp
   rw[if_neg h1]
   show ACall ..
   refine za (zcE c 2 ⟨by decide,by decide⟩ hco hgp) rfl ?_
   show ARet ..
   exact⟨[(16,16)],[(16,.vars (frV g (c.set_ 2 ((c.at_ 2).take ((c.at_ 2).length-1)))))],[.int (at0 (c.at_ 2) ((c.at_ 2).length-1)),.int 0],.cons _ _ _ _ .same (.cons _ _ _ _ .same .nil),.old 16 16 _ _ _ rfl rfl (.vars _ _ (zb rfl)) .nil,rfl,rfl,rfl⟩
set_option maxRecDepth 60000 in
set_option maxHeartbeats 4000000 in
theorem zoO (g:Hp) (c:Lists) (n:Int) (hs:zD g=true) (hn:n<=63) (hr:1<=zaD n/\zaD n<=4):Spec X 233 [(16,.vars (frV g c))] [.c (.ptr 16 0 0),.int n] (fun H r=>H=[(16,.vars (frV (zaO g n) c))]/\r = .tup [.int (zaV g n),.int (zcl g n)]):=by
 refine zGO X_ok Tryz.f233 fun hb hH=>⟨rfl,?_⟩
 obtain⟨hmw,hmp,hwl,hcl,_,h64⟩:=zm hs
 obtain⟨m,em⟩:∃m:Nat,zaD n=(m:Int):=⟨(zaD n).toNat,by omega⟩
 show ACall ..
 refine za (znb n (by omega)) rfl ?_
 have eI:zef g n=za6 g.pages m:=by unfold zef;rw[em];rfl
 rw[em]
 show ACall ..
 refine za (zlB g.pages m hmp (by omega) (by omega)) rfl ?_
 cases hf:za6 g.pages m with
 |none=>
  obtain⟨e1,e2,e3⟩:=zh7 (eI.trans hf)
  rw[e1,e2,e3]
  refine zYE (by decide) ?_
  show ARet ..
  exact⟨[(16,16)],[(16,.vars (frV g c))],[.int 0,.int 4],.cons _ _ _ _ .same (.cons _ _ _ _ .same .nil),.old 16 16 _ _ _ rfl rfl (.vars _ _ (zb rfl)) .nil,rfl,rfl,rfl⟩
 |some i=>
  obtain⟨e1,e2,e3⟩:=zhY (eI.trans hf)
  obtain⟨hfr,hil⟩:=zbO hf
  rw[e1,e2,e3]
  refine zNO (by simp) ?_
  show ACall ..
  refine za (zpT g.pages i m hmp (by omega) (by omega) hfr) rfl ?_
  show ACall ..
  refine za (zvd g.w i hmw (by omega)) rfl ?_
  rw[em]
  show ARet ..
  exact⟨[(16,16)],[(16,.vars (frV {g with pages:=zbA g.pages i (⟨2,(m:Int)⟩::List.replicate ((m:Int).toNat-1) ⟨3,0⟩)} c))],[.int (16*((i:Int)+1)),.int 0],.cons _ _ _ _ .same (.cons _ _ _ _ .same .nil),.old 16 16 _ _ _ rfl rfl (.vars _ _ (zb rfl)) .nil,rfl,rfl,rfl⟩
theorem zt7 (g:Hp) (hs:g.small):Spec X 231 [] [g.tv] (Ret [] g.tv):=by
 refine zGO X_ok Tryz.f231 fun hb hH=>⟨rfl,?_⟩
 obtain⟨h1,h2,h3,h4,h5,h6⟩:=hs
 show ADCall ..
 refine .mk _ _ (zd g.w h1) rfl ?_
 show ADCall ..
 refine .mk _ _ (zab g.pages h2) rfl ?_
 show ADCall ..
 refine .mk _ _ (zae g.cards h3) rfl ?_
 show ∃n,_
 refine⟨4,?_⟩
 show ALoop ..
 refine .next ?_
 refine zYE (by decide) ?_
 show AOb ..
 refine⟨by decide,?_⟩
 show ACall ..
 refine za (zd g.free.l0 h4) rfl ?_
 show AOb ..
 refine⟨by decide,?_⟩
 show ALoop ..
 refine .next ?_
 refine zYE (by decide) ?_
 show AOb ..
 refine⟨by decide,?_⟩
 show ACall ..
 refine za (zd g.free.l1 h5) rfl ?_
 show AOb ..
 refine⟨by decide,?_⟩
 show ALoop ..
 refine .next ?_
 refine zYE (by decide) ?_
 show AOb ..
 refine⟨by decide,?_⟩
 show ACall ..
 refine za (zd g.free.l2 h6) rfl ?_
 show AOb ..
 refine⟨by decide,?_⟩
 show ALoop ..
 refine .next ?_
 refine zNO (by decide) ?_
 show ARet ..
 exact zg rfl ⟨rfl,rfl⟩
theorem zd6 (e:Int):Spec X 230 [] [.int e] (Ret [] (.tup [Hp.zero.tv,Lists.zero.tv,.int 0,.int e])):=by
 refine zGO X_ok Tryz.f230 fun hb hH=>⟨rfl,?_⟩
 show ARet ..
 exact⟨[],[],[Hp.zero.tv,Lists.zero.tv,.int 0,.int e],.cons _ _ _ _ (.agg _ _ (.cons _ _ _ _ (.nilsl .int) (.cons _ _ _ _ (.nilsl .page) (.cons _ _ _ _ (.nilsl .int) (.cons _ _ _ _ (.nilsl .int) (.cons _ _ _ _ (.nilsl .int) (.cons _ _ _ _ (.nilsl .bool) .nil))))))) (.cons _ _ _ _ (.agg _ _ (.cons _ _ _ _ (.nilsl .int) (.cons _ _ _ _ (.nilsl .int) (.cons _ _ _ _ (.nilsl .int) .nil)))) (.cons _ _ _ _ .same (.cons _ _ _ _ .same .nil))),.nil,rfl,rfl,rfl⟩
theorem ztj (l:Lists) (k:Int):(l.at_ k).length<=l.flat.length:=by
 unfold Lists.at_ Lists.flat
 rw[List.length_append,List.length_append]
 split
 ·omega
 ·split<;>omega
theorem zgX {g:Hp} {c:Lists} (h:(flats (zec g [c])).length<=zi) (k:Int):(g.free.at_ k).length+(c.at_ k).length<=zi:=by
 have e:flats (zec g [c])=g.free.flat++(c.flat++flats []):=rfl
 rw[e,List.length_append,List.length_append]at h
 have:=ztj g.free k
 have:=ztj c k
 omega
theorem zng {x:Hd} (h:zcy x=0):zhd x=x.word:=by
 unfold zcy at h
 unfold zhd
 by_cases hm:x.May
 ·rw[if_pos hm]
 ·rw[if_neg hm]at h;cases h
set_option maxRecDepth 60000 in
set_option maxHeartbeats 4000000 in
theorem zug (g:Hp) (c:Lists) (x:Hd) (hs:g.small) (hco:c.ok) (hlm:(flats (zec g [c])).length<=zi):Spec X 191 [] [g.tv,c.tv,x.tv] (Ret [] (.tup [(zeL g c x).tv,(takeC g c x).tv,.int (takeA g c x),.int (zaC g c x)])):=by
 refine Spec.fz (zGO zlI Tryz.f191 fun hb hH=>⟨rfl,?_⟩)
 show ACall ..
 refine za ((zli x).uz) rfl ?_
 by_cases h1:zcy x≠0\/x.used=false
 ·have hb1:(bif zcy x != 0 then true else !x.used)=true:=by
   rcases h1 with h|h
   ·rw[show(zcy x != 0)=true by simpa using h];rfl
   ·rw[h];cases (zcy x != 0)<;>rfl
  show AIf ((bif zcy x != 0 then true else !x.used)=false/\True) _ _
  rw[hb1]
  show AIf ..
  refine⟨fun h=>absurd h.1 (by decide),fun _=>?_⟩
  show AOb ..
  refine⟨by decide,?_⟩
  refine zYE (by decide) ?_
  have eE:zaC g c x=1:=by unfold zaC;rw[if_pos (h1.elim .inl fun q=>.inr (.inl q))]
  show ACall ..
  refine za ((zd6 1).uz) rfl ?_
  have hne:zaC g c x≠0:=by rw[eE];decide
  rw[(zbv hne).1,(zbv hne).2.1,(zbv hne).2.2,eE]
  show ARet ..
  exact zg rfl ⟨rfl,rfl⟩
 ·have hb1:(bif zcy x != 0 then true else !x.used)=false:=by
   cases hu:x.used with
   |false=>exact absurd (.inr hu) h1
   |true=>
    by_cases hp:zcy x=0
    ·rw[hp];rfl
    ·exact absurd (.inl hp) h1
  show AIf ((bif zcy x != 0 then true else !x.used)=false/\True) _ _
  rw[hb1]
  show AIf ..
  refine⟨fun _=>?_,fun h=>absurd ⟨(by rfl),trivial⟩ h⟩
  show ACall ..
  refine za ((zeo g [c] hlm (by unfold zi;simp)).uz) rfl ?_
  cases hm:zw g [c] with
  |false=>
   refine zYE (by decide) ?_
   have eE:zaC g c x=1:=by unfold zaC;rw[if_pos (.inr (.inr hm))]
   show ACall ..
   refine za ((zd6 1).uz) rfl ?_
   have hne:zaC g c x≠0:=by rw[eE];decide
   rw[(zbv hne).1,(zbv hne).2.1,(zbv hne).2.2,eE]
   show ARet ..
   exact zg rfl ⟨rfl,rfl⟩
  |true=>
   refine zNO (by decide) ?_
   have hsh:=zF hm
   have e0:zaC g c x=if zap x.n≠0 then zap x.n else if zC x.n=3 then zcl g x.n else zV g c (zC x.n):=by
    unfold zaC
    rw[if_neg (fun q=>q.elim (fun q=>h1 (.inl q)) fun q=>q.elim (fun q=>h1 (.inr q)) fun q=>by rw[hm]at q;cases q)]
   show ACall ..
   refine za ((ziJ x.n).uz) rfl ?_
   by_cases h2:zap x.n=0
   ·rw[if_neg (fun q=>q h2)]at e0
    show ABr (zap x.n != 0) _ _
    rw[show(zap x.n != 0)=false by rw[h2];rfl]
    refine zNO (by decide) ?_
    obtain⟨c1,c2,c3,c4,c5⟩:=znR h2
    show ADCall ..
    refine .mk _ _ ((zt7 g hs).uz) rfl ?_
    show ∃n,_
    refine⟨4,?_⟩
    show ALoop ..
    refine .next ?_
    refine zYE (by decide) ?_
    show AOb ..
    refine⟨by decide,?_⟩
    show ADCall ..
    refine .mk _ _ ((zd c.l0 hco.1).uz) rfl ?_
    show AOb ..
    refine⟨by decide,?_⟩
    show ALoop ..
    refine .next ?_
    refine zYE (by decide) ?_
    show AOb ..
    refine⟨by decide,?_⟩
    show ADCall ..
    refine .mk _ _ ((zd c.l1 hco.2.1).uz) rfl ?_
    show AOb ..
    refine⟨by decide,?_⟩
    show ALoop ..
    refine .next ?_
    refine zYE (by decide) ?_
    show AOb ..
    refine⟨by decide,?_⟩
    show ADCall ..
    refine .mk _ _ ((zd c.l2 hco.2.2).uz) rfl ?_
    show AOb ..
    refine⟨by decide,?_⟩
    show ALoop ..
    refine .next ?_
    refine zNO (by decide) ?_
    show ABr (zC x.n==3) _ _
    by_cases h3:zC x.n=3
    ·rw[if_pos h3]at e0
     rw[show(zC x.n==3)=true by simpa using h3]
     refine zYE (by decide) ?_
     show ACall ..
     refine .hand [(1408,16)] [(16,.vars (frV g c))] [.c (.ptr 16 0 0),.int x.n] _ (.cons _ _ _ _ (.c _ _ (.ptr _ _ _ _ rfl)) (.cons _ _ _ _ .same .nil)) (.old 16 1408 _ _ _ rfl rfl (.vars _ _ (zb rfl)) .nil) rfl (zoO g c x.n hsh c2 ⟨(c5 h3).1,(c5 h3).2.1⟩).uz ?_
     rintro H r ⟨rfl,rfl⟩ _ _
     refine⟨rfl,.inl rfl,?_⟩
     show ABr ((zcl g x.n) != 0) _ _
     by_cases hE:zaC g c x=0
     ·rw[show((zcl g x.n) != 0)=false by rw[←e0,hE];rfl]
      refine zNO (by decide) ?_
      have hc:=ziQ hE
      unfold zke zlb at hc
      rw[if_pos h3,if_pos h3]at hc
      obtain⟨k1,k2,k3,_,k5,_⟩:=hc
      obtain⟨hmw,hmp,hwl,hcl,_,h64⟩:=zm hsh
      have hkw:zba (zaO g x.n).w=true:=by unfold zba at hmw ⊢;rw[k3];exact hmw
      have hce:=zaf (zq k1)
      have hce1:16<=(zaV g x.n):=hce.1
      have hce2:0<ze (zaO g x.n).pages (zaV g x.n):=hce.2.1
      have hce3:(zaV g x.n)+ze (zaO g x.n).pages (zaV g x.n)<=16*(((zaO g x.n).pages.length:Int)+1):=hce.2.2
      have hzl:(zM (zaO g x.n).w ((zaV g x.n)-16).toNat (List.replicate (ze (zaO g x.n).pages (zaV g x.n)).toNat (0:Int))).length=(zaO g x.n).w.length:=zc9 _ _ _ (by rw[List.length_replicate];omega)
      show ADCall ..
      refine .mk _ _ ((zfa (zaO g x.n).pages (zaV g x.n)).uz) rfl ?_
      show ADCall ..
      refine .mk _ _ ((zh4 (zaO g x.n).w (zaV g x.n) (ze (zaO g x.n).pages (zaV g x.n)) hkw ⟨hce1,hce2,by omega⟩).uz) rfl ?_
      have hkz:zba (zM (zaO g x.n).w ((zaV g x.n)-16).toNat (List.replicate (ze (zaO g x.n).pages (zaV g x.n)).toNat (0:Int)))=true:=by unfold zba at hkw ⊢;rw[hzl];exact hkw
      show ACall ..
      refine za ((ze8 (zM (zaO g x.n).w ((zaV g x.n)-16).toNat (List.replicate (ze (zaO g x.n).pages (zaV g x.n)).toNat (0:Int))) (zaV g x.n) (zhd x) hkz (by rw[hzl];omega)).uz) rfl ?_
      have hpw:zhd x=x.word:=zng k5
      rw[hpw]
      obtain⟨t1,t2,t3⟩:=ziG hE
      rw[t1,t2,t3,hE]
      unfold zke zlb zuF
      rw[if_pos h3,if_pos h3,if_pos h3]
      show ARet ..
      exact zg rfl ⟨rfl,rfl⟩
     ·rw[show((zcl g x.n) != 0)=true by rw[←e0];simpa using hE]
      refine zYE (by decide) ?_
      have eE:zaC g c x=(zcl g x.n):=e0
      show ACall ..
      refine za ((zd6 (zcl g x.n)).uz) rfl ?_
      have hne:zaC g c x≠0:=by rw[eE];rw[←eE];exact hE
      rw[(zbv hne).1,(zbv hne).2.1,(zbv hne).2.2,eE]
      show ARet ..
      exact zg rfl ⟨rfl,rfl⟩
    ·rw[if_neg h3]at e0
     rw[show(zC x.n==3)=false by simpa using h3]
     refine zNO (by decide) ?_
     have hfl:(g.free.at_ (zC x.n)).length<=512:=zkU (zbr hm) _
     have hcl:(c.at_ (zC x.n)).length<=zi:=zeU hco _
     show ACall ..
     refine .hand [(1408,16)] [(16,.vars (frV g c))] [.c (.ptr 16 0 0),.int (zC x.n)] _ (.cons _ _ _ _ (.c _ _ (.ptr _ _ _ _ rfl)) (.cons _ _ _ _ .same .nil)) (.old 16 1408 _ _ _ rfl rfl (.vars _ _ (zb rfl)) .nil) rfl (zqx g c (zC x.n) hsh ⟨c3,by omega⟩ hs.2.2.2 hco (by unfold zi;omega) (zgX hlm _)).uz ?_
     rintro H r ⟨rfl,rfl⟩ _ _
     refine⟨rfl,.inl rfl,?_⟩
     show ABr ((zV g c (zC x.n)) != 0) _ _
     by_cases hE:zaC g c x=0
     ·rw[show((zV g c (zC x.n)) != 0)=false by rw[←e0,hE];rfl]
      refine zNO (by decide) ?_
      have hc:=ziQ hE
      unfold zke zlb at hc
      rw[if_neg h3,if_neg h3]at hc
      obtain⟨k1,k2,k3,_,k5,_⟩:=hc
      obtain⟨hmw,hmp,hwl,hcl,_,h64⟩:=zm hsh
      have hkw:zba (zW g c (zC x.n)).w=true:=by unfold zba at hmw ⊢;rw[k3];exact hmw
      have hce:=zaf (zq k1)
      have hce1:16<=(zam g c (zC x.n)):=hce.1
      have hce2:0<ze (zW g c (zC x.n)).pages (zam g c (zC x.n)):=hce.2.1
      have hce3:(zam g c (zC x.n))+ze (zW g c (zC x.n)).pages (zam g c (zC x.n))<=16*(((zW g c (zC x.n)).pages.length:Int)+1):=hce.2.2
      have hzl:(zM (zW g c (zC x.n)).w ((zam g c (zC x.n))-16).toNat (List.replicate (ze (zW g c (zC x.n)).pages (zam g c (zC x.n))).toNat (0:Int))).length=(zW g c (zC x.n)).w.length:=zc9 _ _ _ (by rw[List.length_replicate];omega)
      show ADCall ..
      refine .mk _ _ ((zfa (zW g c (zC x.n)).pages (zam g c (zC x.n))).uz) rfl ?_
      show ADCall ..
      refine .mk _ _ ((zh4 (zW g c (zC x.n)).w (zam g c (zC x.n)) (ze (zW g c (zC x.n)).pages (zam g c (zC x.n))) hkw ⟨hce1,hce2,by omega⟩).uz) rfl ?_
      have hkz:zba (zM (zW g c (zC x.n)).w ((zam g c (zC x.n))-16).toNat (List.replicate (ze (zW g c (zC x.n)).pages (zam g c (zC x.n))).toNat (0:Int)))=true:=by unfold zba at hkw ⊢;rw[hzl];exact hkw
      show ACall ..
      refine za ((ze8 (zM (zW g c (zC x.n)).w ((zam g c (zC x.n))-16).toNat (List.replicate (ze (zW g c (zC x.n)).pages (zam g c (zC x.n))).toNat (0:Int))) (zam g c (zC x.n)) (zhd x) hkz (by rw[hzl];omega)).uz) rfl ?_
      have hpw:zhd x=x.word:=zng k5
      rw[hpw]
      obtain⟨t1,t2,t3⟩:=ziG hE
      rw[t1,t2,t3,hE]
      unfold zke zlb zuF
      rw[if_neg h3,if_neg h3,if_neg h3]
      show ARet ..
      exact zg rfl ⟨rfl,rfl⟩
     ·rw[show((zV g c (zC x.n)) != 0)=true by rw[←e0];simpa using hE]
      refine zYE (by decide) ?_
      have eE:zaC g c x=(zV g c (zC x.n)):=e0
      show ACall ..
      refine za ((zd6 (zV g c (zC x.n))).uz) rfl ?_
      have hne:zaC g c x≠0:=by rw[eE];rw[←eE];exact hE
      rw[(zbv hne).1,(zbv hne).2.1,(zbv hne).2.2,eE]
      show ARet ..
      exact zg rfl ⟨rfl,rfl⟩
   ·rw[if_pos h2]at e0
    show ABr (zap x.n != 0) _ _
    rw[show(zap x.n != 0)=true by simpa using h2]
    refine zYE (by decide) ?_
    have eE:zaC g c x=zap x.n:=e0
    show ACall ..
    refine za ((zd6 (zap x.n)).uz) rfl ?_
    have hne:zaC g c x≠0:=by rw[eE];exact h2
    rw[(zbv hne).1,(zbv hne).2.1,(zbv hne).2.2,eE]
    show ARet ..
    exact zg rfl ⟨rfl,rfl⟩
def zfH (g:Hp) (c:Lists):Hp:={g with free:=⟨g.free.l0++c.l0,g.free.l1++c.l1,g.free.l2++c.l2⟩}
def zoF (g:Hp) (i:Nat):Hp:=if (g.pages.getD i default).kind=1 then zdq g (i:Int) else g
def zll (g:Hp):Nat->Hp
 |0=>g
 |n+1=>zoF (zll g n) n
def zgB (g:Hp) (c:Lists):Hp:=if zw g [c]=true then zll (zfH g c) g.pages.length else Hp.zero
def zvn (g:Hp) (c:Lists):Int:=if zw g [c]=true then 0 else 1
theorem zw8 (g:Hp) (c:Lists) (k:Int):(zfH g c).free.at_ k=g.free.at_ k++c.at_ k:=by
 unfold Lists.at_ zfH
 split
 ·rfl
 ·split<;>rfl
theorem zue (g:Hp) (c:Lists) (cs:List Lists):(flats ((zfH g c).free::cs)).Perm (flats (g.free::c::cs)):=by
 have e1:flats ((zfH g c).free::cs)=((g.free.l0++c.l0)++(g.free.l1++c.l1)++(g.free.l2++c.l2))++flats cs:=rfl
 have e2:flats (g.free::c::cs)=(g.free.l0++g.free.l1++g.free.l2)++((c.l0++c.l1++c.l2)++flats cs):=rfl
 rw[e1,e2,List.perm_iff_count]
 intro a
 simp only[List.count_append]
 omega
theorem zph {g:Hp} {c:Lists} {cs:List Lists} (hm:zw g (c::cs)=true):zw (zfH g c) cs=true/\(zt g (c::cs)=true->zt (zfH g c) cs=true):=by
 obtain⟨m1,m2,m3,m4⟩:=zai hm
 have hp:=zue g c cs
 have hmay:zw (zfH g c) cs=true:=by
  refine zdD m1 (fun l hl=>?_) m3 (hp.nodup_iff.2 m4)
  rcases List.mem_cons.1 hl with rfl|hl
  ·refine zI.2 fun d d0 d2 x hx=>?_
   rw[zw8]at hx
   rcases List.mem_append.1 hx with hx|hx
   ·exact zI.1 (m2 g.free (List.mem_cons_self ..)) d d0 d2 x hx
   ·exact zI.1 (m2 c (List.mem_cons_of_mem _ (List.mem_cons_self ..))) d d0 d2 x hx
  ·exact m2 l (List.mem_cons_of_mem _ (List.mem_cons_of_mem _ hl))
 refine⟨hmay,fun hw=>?_⟩
 unfold zt at hw ⊢
 rw[hmay,Bool.true_and]
 rw[hm,Bool.true_and]at hw
 rw[List.all_eq_true]at hw ⊢
 intro u hu
 have:=hw u hu
 rw[Bool.or_eq_true]at this ⊢
 rcases this with k|k
 ·exact .inl k
 ·exact .inr (List.contains_iff_mem.2 (hp.mem_iff.2 (List.contains_iff_mem.1 k)))
theorem zjJ {l:List Page} (hm:zao l=true) {i:Nat} (hi:i<l.length) (hk:(l.getD i default).kind=1):Drops l i:=⟨hm,hi,.inl hk⟩
structure Backed (g k:Hp) (cs:List Lists):Prop where
 may:zw k cs=true
 whole:zt g cs=true->zt k cs=true
 used:zaa k=zaa g
 cards:k.cards=g.cards
 w:k.w=g.w
 plen:k.pages.length=g.pages.length
 room:∀u,ze k.pages u≠0->ze k.pages u=ze g.pages u
theorem zqM {g:Hp} {cs:List Lists} (hm:zw g cs=true) {i:Nat} (hi:i<g.pages.length):Backed g (zoF g i) cs:=by
 unfold zoF
 split
 ·rename_i hk
  obtain⟨b1,b2,b3,b4,b5,b6,b7,_⟩:=zlj hm (i:=(i:Int)) (by omega) (zjJ (zm (zF hm)).2.1 hi hk) hk
  exact⟨b1,b2,b3,b4,b5,b6,b7⟩
 ·exact⟨hm,id,rfl,rfl,rfl,rfl,fun _ _=>rfl⟩
theorem Backed.trans {g k m:Hp} {cs:List Lists} (h:Backed g k cs) (h' : Backed k m cs):Backed g m cs:=
 ⟨h'.may,fun q=>h'.whole (h.whole q),h'.used.trans h.used,h'.cards.trans h.cards,h'.w.trans h.w,h'.plen.trans h.plen,fun u hu=>by
  have e:=h'.room u hu
  rw[e]
  exact h.room u (by rw[←e];exact hu)⟩
theorem zhR {g:Hp} {cs:List Lists} (hm:zw g cs=true):∀n,n<=g.pages.length->Backed g (zll g n) cs
 |0,_=>⟨hm,id,rfl,rfl,rfl,rfl,fun _ _=>rfl⟩
 |n+1,hn=>by
  have h:=zhR hm n (by omega)
  exact h.trans (zqM h.may (by rw[h.plen];omega))
theorem zpp (g:Hp) (i:Nat) (hi:i<g.pages.length) (hk:(g.pages.getD i default).kind≠1):Spec X 241 [(16,.vars (rkV g))] [.c (.ptr 16 0 0),.int (i:Int)] (fun H r=>H=[(16,.vars (rkV g))]/\r = .tup []):=by
 refine zGO X_ok Tryz.f241 fun hb hH=>⟨rfl,?_⟩
 show AOb ((0:Int)<=(i:Int)/\(i:Int)<(g.pages.length:Int)) _
 refine⟨by omega,?_⟩
 show ABr ((g.pages.getD i default).kind != 1) _ _
 rw[show((g.pages.getD i default).kind != 1)=true by simpa using hk]
 refine zYE (by decide) ?_
 show ARet ..
 exact⟨[(16,16)],[(16,.vars (rkV g))],[],.nil,.old 16 16 _ _ _ rfl rfl (.vars _ _ (zb rfl)) .nil,rfl,rfl,rfl⟩
theorem zqy (g:Hp) (i:Nat) (hm:zao g.pages=true) (hi:i<g.pages.length) (hok:g.free.ok):Spec X 241 [(16,.vars (rkV g))] [.c (.ptr 16 0 0),.int (i:Int)] (fun H r=>H=[(16,.vars (rkV (zoF g i)))]/\r = .tup []):=by
 unfold zoF
 by_cases hk:(g.pages.getD i default).kind=1
 ·rw[if_pos hk]
  exact zkZ g (i:Int) (by omega) (zjJ hm hi hk) hk hok
 ·rw[if_neg hk]
  exact zpp g i hi hk
theorem zwo {g:Hp} (h:zw g []=true):g.free.ok:=by
 have e0:=zkU h 0
 have e1:=zkU h 1
 have e2:=zkU h 2
 have e0:g.free.l0.length<=512:=e0
 have e1:g.free.l1.length<=512:=e1
 have e2:g.free.l2.length<=512:=e2
 refine⟨?_,?_,?_⟩<;>unfold zi<;>omega
set_option maxRecDepth 60000 in
set_option maxHeartbeats 4000000 in
theorem zrI (g:Hp) (c:Lists) (hs:g.small) (hlm:(flats (zec g [c])).length<=zi):Spec X 202 [] [g.tv,c.tv] (Ret [] (.tup [(zgB g c).tv,.int (zvn g c)])):=by
 refine Spec.fz (zGO zlI Tryz.f202 fun hb hH=>⟨rfl,?_⟩)
 show ACall ..
 refine za ((zeo g [c] hlm (by unfold zi;simp)).uz) rfl ?_
 unfold zgB zvn
 cases hm:zw g [c] with
 |false=>
  rw[if_neg (by decide),if_neg (by decide)]
  refine zYE (by decide) ?_
  show ARet ..
  exact⟨[],[],[Hp.zero.tv,.int 1],.cons _ _ _ _ (.agg _ _ (.cons _ _ _ _ (.nilsl .int) (.cons _ _ _ _ (.nilsl .page) (.cons _ _ _ _ (.nilsl .int) (.cons _ _ _ _ (.nilsl .int) (.cons _ _ _ _ (.nilsl .int) (.cons _ _ _ _ (.nilsl .bool) .nil))))))) (.cons _ _ _ _ .same .nil),.nil,rfl,rfl,rfl⟩
 |true=>
  rw[if_pos rfl,if_pos rfl]
  refine zNO (by decide) ?_
  have hpm:=(zph hm).1
  have hpk:=zwo hpm
  have hmp:=(zm (zF hm)).2.1
  have h64:=(zag hmp).2.2
  have s0:=zgX hlm 0
  have s1:=zgX hlm 1
  have s2:=zgX hlm 2
  have o1:(g.free.set_ 0 (g.free.at_ 0++c.at_ 0)).ok:=zeQ hs.2.2.2 (by rw[List.length_append];omega)
  have o2:((g.free.set_ 0 (g.free.at_ 0++c.at_ 0)).set_ 1 (g.free.at_ 1++c.at_ 1)).ok:=zeQ o1 (by rw[List.length_append];omega)
  show ACall ..
  refine .mk _ (zlK g hs).uz fun H r ⟨eH,er⟩ _ _=>⟨.inl rfl,?_⟩
  subst eH er
  show ∃n,_
  refine⟨4,?_⟩
  show ALoop ..
  refine .next ?_
  refine zYE (by decide) ?_
  show AOb ..
  refine⟨by decide,?_⟩
  show ACall ..
  refine za ((zeW g.free 0 c.l0 ⟨by decide,by decide⟩ hs.2.2.2 s0).uz) rfl ?_
  show ALoop ..
  refine .next ?_
  refine zYE (by decide) ?_
  show AOb ..
  refine⟨by decide,?_⟩
  show ACall ..
  refine za ((zeW (g.free.set_ 0 (g.free.at_ 0++c.at_ 0)) 1 c.l1 ⟨by decide,by decide⟩ o1 s1).uz) rfl ?_
  show ALoop ..
  refine .next ?_
  refine zYE (by decide) ?_
  show AOb ..
  refine⟨by decide,?_⟩
  show ACall ..
  refine za ((zeW ((g.free.set_ 0 (g.free.at_ 0++c.at_ 0)).set_ 1 (g.free.at_ 1++c.at_ 1)) 2 c.l2 ⟨by decide,by decide⟩ o2 s2).uz) rfl ?_
  show ALoop ..
  refine .next ?_
  refine zNO (by decide) ?_
  show ∃n,_
  refine⟨0,ALoop.inv (ι:={j:Nat // j<=g.pages.length}) (fun q=>⟨[(4,.c (.ptr 0 0 0)),(5,.int (0)),(6,.c (.ptr 1 0 0)),(44,.int ((g.pages.length:Int))),(45,.int ((q.1:Int)))],[(0,.vars [.d .nilsl,.d .nilsl,.d .nilsl,.d .nilsl,.d .nilsl,.d .nilsl]),(1,.vars (rkV (zll (zfH g c) q.1)))],96⟩) (fun q=>g.pages.length-q.1) ⟨0,Nat.zero_le _⟩ ?_ ?_⟩
  ·exact⟨[(96,0),(352,1)],(by repeat' first|exact .nil|refine .cons _ _ _ ?_ ?_|exact .same|exact .c _ _ (.own _ _ rfl)|exact .c _ _ (.ptr _ _ _ _ rfl)|exact .c _ _ (.frz _ _ rfl)|exact .any _),(by exact .old 0 96 _ _ _ rfl rfl (.vars _ _ (zb rfl)) (.old 1 352 _ _ _ rfl rfl (.vars _ _ (zb rfl)) .nil)),(by rfl)⟩
  rintro⟨j,hj⟩
  have hj:j<=g.pages.length:=hj
  have bk:=zhR hpm j hj
  have hjp:(zll (zfH g c) j).pages.length=g.pages.length:=bk.plen
  show ABr (decide ((j:Int)<(g.pages.length:Int))) _ _
  refine⟨fun h=>?_,fun h=>?_⟩
  ·have hjl:j<g.pages.length:=by have:=of_decide_eq_true h;omega
   have wj:IntKind.i64.wrap ((j:Int)+1)=((j+1:Nat):Int):=zP (i:=j) (by unfold zA;omega)
   show ACall ..
   refine .hand [(1,16)] [(16,.vars (rkV (zll (zfH g c) j)))] [.c (.ptr 16 0 0),.int (j:Int)] _ (.cons _ _ _ _ (.c _ _ (.ptr _ _ _ _ rfl)) (.cons _ _ _ _ .same .nil)) (.old 16 1 _ _ _ rfl rfl (.vars _ _ (zb rfl)) .nil) rfl (zqy (zll (zfH g c) j) j (zm (zF bk.may)).2.1 (by rw[hjp];exact hjl) (zwo bk.may)).uz ?_
   rintro H r ⟨rfl,rfl⟩ _ _
   refine⟨rfl,.inl rfl,?_⟩
   show ARound ..
   exact⟨⟨j+1,hjl⟩,(by dsimp only;omega),[(0,0),(1,1)],(by repeat' first|exact .nil|refine .cons _ _ _ ?_ ?_|exact .int_eq wj|exact .same|exact .c _ _ (.own _ _ rfl)|exact .c _ _ (.ptr _ _ _ _ rfl)|exact .c _ _ (.frz _ _ rfl)|exact .any _),(by exact .old 0 0 _ _ _ rfl rfl (.vars _ _ (zb rfl)) (.old 1 1 _ _ _ rfl rfl (.vars _ _ (zb rfl)) .nil)),(by rfl)⟩
  ·have hjl:j=g.pages.length:=by have:=of_decide_eq_false h;omega
   subst hjl
   show ARet ..
   exact zg rfl ⟨rfl,rfl⟩
theorem zsA (w:List Int):Spec X 122 [] [.c (.d (.sl .int w))] (Ret [] (.bo (zba w))):=by
 refine zGO X_ok Tryz.f122 fun hb hH=>⟨rfl,?_⟩
 have er:=zsN w.length 16
 show AOb ..
 refine⟨by intro _;decide,?_⟩
 show ARet ..
 refine zo (x:=bif (bif decide ((w.length:Int)>=16) then decide ((w.length:Int)<=1024) else false) then ((w.length:Int).tmod ((16:Nat):Int))==0 else false) ?_ ⟨rfl,rfl⟩
 rw[er]
 unfold zba
 rw[Bool.eq_iff_iff]
 simp[Bool.cond_eq_ite]
 omega
theorem zwY {g:Hp} {a:Int} (hr:ze g.pages a≠0):(zQ g a).kind=1\/(zQ g a).kind=2:=by
 obtain⟨_,i,hi⟩:=zac (zq hr)
 have hpg:zQ g a=g.pages.getD i default:=by
  unfold zQ
  have:=hi.div
  simp only at this
  rw[this]
  simp
 rw[hpg]
 rcases hi.kind with⟨k1,_⟩|⟨k1,_⟩
 ·exact .inl k1
 ·exact .inr k1
theorem zwb {n:Int} (h:zap n≠0):zdI n≠0:=by
 unfold zdI
 rw[if_pos h]
 exact h
theorem zrE (g:Hp) (a:Int) (hs:zD g=true) (hr:ze g.pages a≠0) (hw:zf g a<9223372036854775808):Spec X 124 [] [g.tv,.int a] (Ret [] (.bo (zah g a))):=by
 refine zGO X_ok Tryz.f124 fun hb hH=>⟨rfl,?_⟩
 obtain⟨_,hmp,hsl,_,_,h64⟩:=zm hs
 obtain⟨h1,h2⟩:=zak (h:=g) hr
 have ew:IntKind.i64.wrap (a-16)=a-16:=zu (by omega) (by omega)
 have e1:tdv a 16=a / 16:=zds (by omega) (by omega) (by omega)
 have e2:IntKind.i64.wrap (tdv a 16-1)=a / 16-1:=by rw[e1];exact zu (by omega) (by omega)
 show AOb ((0:Int)<=IntKind.i64.wrap (a-16)/\IntKind.i64.wrap (a-16)<(g.w.length:Int)) _
 refine⟨by rw[ew];omega,?_⟩
 show ACall _ _ [.int (g.w.getD (IntKind.i64.wrap (a-16)).toNat default)] _ _ _
 rw[ew]
 show ACall _ _ [.int (zf g a)] _ _ _
 refine za (zim (zf g a) hw) rfl ?_
 show AOb ..
 refine⟨by decide,?_⟩
 show AOb ((0:Int)<=IntKind.i64.wrap (tdv a 16-1)/\IntKind.i64.wrap (tdv a 16-1)<(g.pages.length:Int)) _
 refine⟨by rw[e2];omega,?_⟩
 have hpg:g.pages.getD (IntKind.i64.wrap (tdv a 16-1)).toNat default=zQ g a:=by rw[e2];rfl
 unfold zah zhq
 generalize unp (zf g a)=u
 generalize hi:zfN (zf g a)=b
 show ABr (bif !b then true else !u.used) _ _
 refine⟨fun h=>?_,fun h=>?_⟩
 ·show ARet ..
  refine zo (x:=bif b then (g.pages.getD (IntKind.i64.wrap (tdv a 16-1)).toNat default).kind==1 else false) ?_ ⟨rfl,rfl⟩
  rw[hpg]
  cases b with
  |false=>rfl
  |true=>
   have hu:u.used=false:=by simpa using h
   rw[hu]
   rfl
 ·have hbu:b=true/\u.used=true:=by cases b<;>simp at h;exact⟨rfl,h⟩
  obtain⟨rfl,hu⟩:=hbu
  rw[hu]
  have hk:=zwY hr
  show ACall ..
  refine za (zqa u.n) rfl ?_
  show ABr (zap u.n != 0) _ _
  refine⟨fun h=>?_,fun h=>?_⟩
  ·have he:zap u.n≠0:=by simpa using h
   have he':=zwb he
   show ARet ..
   refine zo (x:=false) ?_ ⟨rfl,rfl⟩
   simp[he,he']
  ·have he:zap u.n=0:=by simpa using h
   show ABr (decide ((g.pages.getD (IntKind.i64.wrap (tdv a 16-1)).toNat default).kind=1)) _ _
   rw[hpg]
   refine⟨fun h=>?_,fun h=>?_⟩
   ·have hk1:=of_decide_eq_true h
    show ARet ..
    refine zo (x:=decide (zC u.n=(g.pages.getD (IntKind.i64.wrap (tdv a 16-1)).toNat default).arg)) ?_ ⟨rfl,rfl⟩
    rw[hpg,hk1]
    simp[he]
   ·have hk1:=of_decide_eq_false h
    have hk2:(zQ g a).kind=2:=by omega
    show ACall ..
    refine za (ztQ u.n) rfl ?_
    show ARet ..
    refine zo (x:=bif decide (zdI u.n=0) then decide (zaD u.n=(g.pages.getD (IntKind.i64.wrap (tdv a 16-1)).toNat default).arg) else false) ?_ ⟨rfl,rfl⟩
    rw[hpg,hk2]
    simp[Bool.cond_eq_ite]
theorem zhU (g:Hp) (a c:Int) (hs:zD g=true):Spec X 125 [] [g.tv,.int a,.int c] (Ret [] (.bo (zL g c a))):=by
 refine zGO X_ok Tryz.f125 fun hb hH=>⟨rfl,?_⟩
 obtain⟨_,hmp,hsl,_,_,h64⟩:=zm hs
 show ACall ..
 refine za (zgw g.pages a) rfl ?_
 unfold zL
 have hr0:=zc7 g.pages a
 show ABr (decide (ze g.pages a=0)) _ _
 refine⟨fun h=>?_,fun h=>?_⟩
 ·have h0:=of_decide_eq_true h
  show ARet ..
  refine zo (x:=false) ?_ ⟨rfl,rfl⟩
  rw[h0];simp
 ·have h0:=of_decide_eq_false h
  obtain⟨h1,h2⟩:=zak (h:=g) h0
  have ew:IntKind.i64.wrap (a-16)=a-16:=zu (by omega) (by omega)
  have e1:tdv a 16=a / 16:=zds (by omega) (by omega) (by omega)
  have e2:IntKind.i64.wrap (tdv a 16-1)=a / 16-1:=by rw[e1];exact zu (by omega) (by omega)
  have hpg:g.pages.getD (IntKind.i64.wrap (tdv a 16-1)).toNat default=zQ g a:=by rw[e2];rfl
  show AOb ..
  refine⟨by decide,?_⟩
  show AOb ((0:Int)<=IntKind.i64.wrap (tdv a 16-1)/\IntKind.i64.wrap (tdv a 16-1)<(g.pages.length:Int)) _
  refine⟨by rw[e2];omega,?_⟩
  show ABr ((g.pages.getD (IntKind.i64.wrap (tdv a 16-1)).toNat default).kind==1&&((g.pages.getD (IntKind.i64.wrap (tdv a 16-1)).toNat default).arg==c&&true)) _ _
  rw[hpg,zsK]
  refine⟨fun h=>?_,fun h=>?_⟩
  ·show AOb ((0:Int)<=IntKind.i64.wrap (a-16)/\IntKind.i64.wrap (a-16)<(g.w.length:Int)) _
   refine⟨by rw[ew];omega,?_⟩
   show ARet ..
   refine zo (x:=decide (g.w.getD (IntKind.i64.wrap (a-16)).toNat default=0)) ?_ ⟨rfl,rfl⟩
   rw[ew]
   have hp:=of_decide_eq_true h
   rw[hp]
   show decide (zf g a=0)=_
   rw[decide_eq_decide]
   constructor
   ·intro k;exact⟨by omega,rfl,k⟩
   ·rintro⟨_,_,k⟩;exact k
  ·show ARet ..
   refine zo (x:=false) ?_ ⟨rfl,rfl⟩
   have hp:=of_decide_eq_false h
   symm
   apply decide_eq_false
   rintro⟨_,k,_⟩
   exact hp k
theorem zq9 (g:Hp) (cs:List Lists) (hm:(flats (zec g cs)).length<=zi) (hc:cs.length<zi) (hw:∀x∈g.w,I64 x):Spec X 84 [] [g.tv,.c (.d (.sl .lists cs))] (Ret [] (.bo (zw g cs))):=by
 refine zGO X_ok Tryz.f84 fun hb hH=>⟨rfl,?_⟩
 show ACall ..
 refine za (zsA g.w) rfl ?_
 show ACall ..
 refine za (zkH g.pages) rfl ?_
 have hla:g.w.length<=zA:=((hb (g.tv) (by simp)) (.d (.sl .int g.w)) (by simp[Hp.enc])).1
 have hlp:g.pages.length<=zA:=((hb (g.tv) (by simp)) (.d (.sl .page g.pages)) (by simp[Hp.enc])).1
 unfold zA at hla hlp
 have w1:IntKind.i64.wrap (16*(g.pages.length:Int))=16*(g.pages.length:Int):=zu (by omega) (by omega)
 have w2:IntKind.i64.wrap (2*(g.pages.length:Int))=2*(g.pages.length:Int):=zu (by omega) (by omega)
 show ABr (bif (bif (bif !zba g.w then true else !zao g.pages) then true else (g.w.length:Int) != IntKind.i64.wrap (16*(g.pages.length:Int))) then true else (g.cards.length:Int) != IntKind.i64.wrap (2*(g.pages.length:Int))) _ _
 rw[w1,w2]
 have hsh:(bif (bif (bif !zba g.w then true else !zao g.pages) then true else (g.w.length:Int) != 16*(g.pages.length:Int)) then true else (g.cards.length:Int) != 2*(g.pages.length:Int)) = !zD g:=by
  unfold zD
  cases zba g.w with
  |false=>rfl
  |true=>
   cases zao g.pages with
   |false=>rfl
   |true=>
    rw[Bool.eq_iff_iff]
    simp[Bool.cond_eq_ite]
    omega
 rw[hsh]
 unfold zw
 refine⟨fun h=>?_,fun h=>?_⟩
 ·have hs:zD g=false:=by simpa using h
  rw[hs]
  show ARet ..
  exact zg rfl ⟨rfl,rfl⟩
 have hs:zD g=true:=by simpa using h
 rw[hs]
 show ACall ..
 refine .mk _ (zl9 g.pages) fun H r ⟨eH,er⟩ _ _=>⟨.inl rfl,?_⟩
 subst eH er
 obtain⟨A,hA⟩:∃A,A=cellStarts g.pages:=⟨_,rfl⟩
 rw[←hA]
 have hAl:A.length<=512:=by rw[hA];exact zfh g.pages
 have hAr:∀x∈A,ze g.pages x≠0:=fun x hx=>zn.1 (hA▸hx)
 show ∃n,_
 refine⟨0,ALoop.inv (ι:={i:Nat // i<=A.length/\A.all (zah g)=(A.drop i).all (zah g)}) (fun q=>⟨[(1,.c (.d (.sl .lists (cs)))),(2,.c (.d (.rp (g.enc)))),(7,.c (.d (.sl .int (A)))),(8,.int (q.1))],[],32⟩) (fun q=>A.length-q.1) ⟨0,Nat.zero_le _,by rw[List.drop_zero]⟩ ?_ ?_⟩
 ·exact⟨[],(by repeat' first|exact .nil|refine .cons _ _ _ ?_ ?_|exact .same|exact .c _ _ (.own _ _ rfl)|exact .c _ _ (.ptr _ _ _ _ rfl)|exact .c _ _ (.frz _ _ rfl)|exact .any _),(by exact .nil),(by rfl)⟩
 ·rintro⟨i,hi,he⟩
  show ABr (decide ((i:Int)<(A.length:Int))) _ _
  refine⟨fun h=>?_,fun h=>?_⟩
  ·have hlt:i<A.length:=by simpa using h
   have wi:IntKind.i64.wrap ((i:Int)+1)=((i+1:Nat):Int):=zP (i:=i) (by unfold zA;omega)
   have he:A.all (zah g)=(zah g (A.getD i default)&&(A.drop (i+1)).all (zah g)):=by
    rw[he,List.drop_eq_getElem_cons hlt,List.all_cons,List.getD_eq_getElem?_getD,List.getElem?_eq_getElem hlt]
    rfl
   have hin:A.getD i default∈A:=by
    rw[List.getD_eq_getElem?_getD,List.getElem?_eq_getElem hlt]
    exact List.getElem_mem hlt
   show AOb ((0:Int)<=(i:Int)/\(i:Int)<(A.length:Int)) _
   refine⟨by omega,?_⟩
   have hra:=hAr _ hin
   have had:=zak (h:=g) hra
   have hwx:zf g (A.getD i default)<9223372036854775808:=by
    have hidx:(A.getD i default-16).toNat<g.w.length:=by
     have h1:=had.1;have h2:=had.2
     obtain⟨_,_,h3,_⟩:=zm hs
     omega
    refine(hw _ ?_).2
    unfold zf at0
    rw[List.getD_eq_getElem?_getD,List.getElem?_eq_getElem hidx]
    exact List.getElem_mem hidx
   show ADCall ..
   refine .mk _ _ (zrE g (A.getD i default) hs hra hwx) rfl ?_
   show ABr (!zah g (A.getD i default)) _ _
   refine⟨fun h=>?_,fun h=>?_⟩
   ·have hf:zah g (A.getD i default)=false:=by simpa using h
    show ARet ..
    refine zo (x:=false) ?_ ⟨rfl,rfl⟩
    rw[he,hf]
    simp
   ·have hf:zah g (A.getD i default)=true:=by simpa using h
    show ARound ..
    exact⟨⟨i+1,hlt,by rw[he,hf,Bool.true_and]⟩,(by dsimp only;omega),[],(by repeat' first|exact .nil|refine .cons _ _ _ ?_ ?_|exact .int_eq wi|exact .same|exact .c _ _ (.own _ _ rfl)|exact .c _ _ (.ptr _ _ _ _ rfl)|exact .c _ _ (.frz _ _ rfl)|exact .any _),(by exact .nil),(by rfl)⟩
  ·have hge:i=A.length:=by simp at h;omega
   rw[hge,List.drop_length]at he
   have hall:A.all (zah g)=true:=by rw[he];rfl
   show AOb (1+cs.length<=zi) _
   refine⟨by omega,?_⟩
   obtain⟨L,hL⟩:∃L:List Lists,L=g.free::cs:=⟨_,rfl⟩
   have hlen:L.length<=zi:=by rw[hL,List.length_cons];omega
   unfold zi at hlen
   have hFl:(flats L).length<=zi:=by rw[hL];exact hm
   show ∃n,_
   refine⟨0,ALoop.inv (ι:={i:Nat // i<=L.length/\L.all (zS g)=(L.drop i).all (zS g)}) (fun q=>⟨[(2,.c (.d (.rp (g.enc)))),(9,.c (.d (.sl .lists (L)))),(10,.int (q.1))],[],32⟩) (fun q=>L.length-q.1) ⟨0,Nat.zero_le _,by rw[List.drop_zero]⟩ ?_ ?_⟩
   ·exact⟨[],(by repeat' first|exact .nil|refine .cons _ _ _ ?_ ?_|exact .frz rfl hL.symm|exact .same|exact .c _ _ (.own _ _ rfl)|exact .c _ _ (.ptr _ _ _ _ rfl)|exact .c _ _ (.frz _ _ rfl)|exact .any _),(by exact .nil),(by rfl)⟩
   ·rintro⟨i,hi,he⟩
    have hLe:(g.free::cs).all (zS g)=L.all (zS g):=by rw[hL]
    show ABr (decide ((i:Int)<(L.length:Int))) _ _
    refine⟨fun h=>?_,fun h=>?_⟩
    ·have hlt:i<L.length:=by simpa using h
     have wi:IntKind.i64.wrap ((i:Int)+1)=((i+1:Nat):Int):=zP (i:=i) (by unfold zA;omega)
     obtain⟨M,hM⟩:∃M,M=L.getD i default:=⟨_,rfl⟩
     have he:L.all (zS g)=(zS g M&&(L.drop (i+1)).all (zS g)):=by
      rw[he,List.drop_eq_getElem_cons hlt,List.all_cons,hM,List.getD_eq_getElem?_getD,List.getElem?_eq_getElem hlt]
      rfl
     have hlx:M.l0.length<=100000000000/\M.l1.length<=100000000000/\M.l2.length<=100000000000:=by
      have h5:=zlA L (i+1)
      rw[zhZ L i hlt,List.length_append]at h5
      have h6:(L.getD i default).flat.length=(L.getD i default).l0.length+(L.getD i default).l1.length+(L.getD i default).l2.length:=by simp[Lists.flat];omega
      rw[←hM]at h5 h6
      unfold zi at hFl
      omega
     obtain⟨m0,m1,m2⟩:=M
     obtain⟨hl0,hl1,hl2⟩:=hlx
     have hl0:m0.length<=100000000000:=hl0
     have hl1:m1.length<=100000000000:=hl1
     have hl2:m2.length<=100000000000:=hl2
     have e0:(L.getD i default).l0=m0:=by rw[←hM]
     have e1:(L.getD i default).l1=m1:=by rw[←hM]
     have e2:(L.getD i default).l2=m2:=by rw[←hM]
     have hlb:zS g ⟨m0,m1,m2⟩=(m0.all (zL g 0)&&(m1.all (zL g 1)&&m2.all (zL g 2))):=rfl
     rw[hlb]at he
     show ∃n,_
     refine⟨4,?_⟩
     show ALoop ..
     refine .next ?_
     refine zYE (by decide) ?_
     show ∃n,_
     refine⟨0,ALoop.inv (ι:={k:Nat // k<=m0.length/\m0.all (zL g 0)=(m0.drop k).all (zL g 0)}) (fun q=>⟨[(2,.c (.d (.rp (g.enc)))),(9,.c (.d (.sl .lists (L)))),(10,.int (i)),(11,.int (0)),(12,.int (q.1))],[],32⟩) (fun q=>m0.length-q.1) ⟨0,Nat.zero_le _,by rw[List.drop_zero]⟩ ?_ ?_⟩
     ·exact⟨[],(by repeat' first|exact .nil|refine .cons _ _ _ ?_ ?_|exact .same|exact .c _ _ (.own _ _ rfl)|exact .c _ _ (.ptr _ _ _ _ rfl)|exact .c _ _ (.frz _ _ rfl)|exact .any _),(by exact .nil),(by rfl)⟩
     rintro⟨k,hk,hke⟩
     show AOb ((0:Int)<=(i:Int)/\(i:Int)<(L.length:Int)) _
     refine⟨by omega,?_⟩
     show AOb ..
     refine⟨by decide,?_⟩
     show ABr (decide ((k:Int)<((L.getD i default).l0.length:Int))) _ _
     rw[e0]
     refine⟨fun h=>?_,fun h=>?_⟩
     ·have hkl:k<m0.length:=by simpa using h
      have wk:IntKind.i64.wrap ((k:Int)+1)=((k+1:Nat):Int):=zP (i:=k) (by unfold zA;omega)
      have hke:m0.all (zL g 0)=(zL g 0 (m0.getD k default)&&(m0.drop (k+1)).all (zL g 0)):=by
       rw[hke,List.drop_eq_getElem_cons hkl,List.all_cons,List.getD_eq_getElem?_getD,List.getElem?_eq_getElem hkl]
       rfl
      show AOb ((0:Int)<=(i:Int)/\(i:Int)<(L.length:Int)) _
      refine⟨by omega,?_⟩
      show AOb ..
      refine⟨by decide,?_⟩
      show AOb ((0:Int)<=(k:Int)/\(k:Int)<((L.getD i default).l0.length:Int)) _
      refine⟨by rw[e0];omega,?_⟩
      show ADCall _ _ [_,.int ((L.getD i default).l0.getD k default),_] _ _ _
      rw[e0]
      refine .mk _ _ (zhU g (m0.getD k default) 0 hs) rfl ?_
      show ABr (!zL g 0 (m0.getD k default)) _ _
      refine⟨fun h=>?_,fun h=>?_⟩
      ·have hf:zL g 0 (m0.getD k default)=false:=by simpa using h
       have hfa:m0.all (zL g 0)=false:=by rw[hke,hf];rfl
       show ARet ..
       refine zo (x:=false) ?_ ⟨rfl,rfl⟩
       rw[hLe,he,hfa]
       simp
      ·have hf:zL g 0 (m0.getD k default)=true:=by simpa using h
       show ARound ..
       exact⟨⟨k+1,hkl,by rw[hke,hf,Bool.true_and]⟩,(by dsimp only;omega),[],(by repeat' first|exact .nil|refine .cons _ _ _ ?_ ?_|exact .int_eq wk|exact .same|exact .c _ _ (.own _ _ rfl)|exact .c _ _ (.ptr _ _ _ _ rfl)|exact .c _ _ (.frz _ _ rfl)|exact .any _),(by exact .nil),(by rfl)⟩
     have hkg:k=m0.length:=by simp at h;omega
     rw[hkg,List.drop_length]at hke
     have hall0:m0.all (zL g 0)=true:=by rw[hke];rfl
     show ALoop ..
     refine .next ?_
     refine zYE (by decide) ?_
     show ∃n,_
     refine⟨0,ALoop.inv (ι:={k:Nat // k<=m1.length/\m1.all (zL g 1)=(m1.drop k).all (zL g 1)}) (fun q=>⟨[(2,.c (.d (.rp (g.enc)))),(9,.c (.d (.sl .lists (L)))),(10,.int (i)),(11,.int (1)),(12,.int (q.1))],[],32⟩) (fun q=>m1.length-q.1) ⟨0,Nat.zero_le _,by rw[List.drop_zero]⟩ ?_ ?_⟩
     ·exact⟨[],(by repeat' first|exact .nil|refine .cons _ _ _ ?_ ?_|exact .same|exact .c _ _ (.own _ _ rfl)|exact .c _ _ (.ptr _ _ _ _ rfl)|exact .c _ _ (.frz _ _ rfl)|exact .any _),(by exact .nil),(by rfl)⟩
     rintro⟨k,hk,hke⟩
     show AOb ((0:Int)<=(i:Int)/\(i:Int)<(L.length:Int)) _
     refine⟨by omega,?_⟩
     show AOb ..
     refine⟨by decide,?_⟩
     show ABr (decide ((k:Int)<((L.getD i default).l1.length:Int))) _ _
     rw[e1]
     refine⟨fun h=>?_,fun h=>?_⟩
     ·have hkl:k<m1.length:=by simpa using h
      have wk:IntKind.i64.wrap ((k:Int)+1)=((k+1:Nat):Int):=zP (i:=k) (by unfold zA;omega)
      have hke:m1.all (zL g 1)=(zL g 1 (m1.getD k default)&&(m1.drop (k+1)).all (zL g 1)):=by
       rw[hke,List.drop_eq_getElem_cons hkl,List.all_cons,List.getD_eq_getElem?_getD,List.getElem?_eq_getElem hkl]
       rfl
      show AOb ((0:Int)<=(i:Int)/\(i:Int)<(L.length:Int)) _
      refine⟨by omega,?_⟩
      show AOb ..
      refine⟨by decide,?_⟩
      show AOb ((0:Int)<=(k:Int)/\(k:Int)<((L.getD i default).l1.length:Int)) _
      refine⟨by rw[e1];omega,?_⟩
      show ADCall _ _ [_,.int ((L.getD i default).l1.getD k default),_] _ _ _
      rw[e1]
      refine .mk _ _ (zhU g (m1.getD k default) 1 hs) rfl ?_
      show ABr (!zL g 1 (m1.getD k default)) _ _
      refine⟨fun h=>?_,fun h=>?_⟩
      ·have hf:zL g 1 (m1.getD k default)=false:=by simpa using h
       have hfa:m1.all (zL g 1)=false:=by rw[hke,hf];rfl
       show ARet ..
       refine zo (x:=false) ?_ ⟨rfl,rfl⟩
       rw[hLe,he,hfa]
       simp
      ·have hf:zL g 1 (m1.getD k default)=true:=by simpa using h
       show ARound ..
       exact⟨⟨k+1,hkl,by rw[hke,hf,Bool.true_and]⟩,(by dsimp only;omega),[],(by repeat' first|exact .nil|refine .cons _ _ _ ?_ ?_|exact .int_eq wk|exact .same|exact .c _ _ (.own _ _ rfl)|exact .c _ _ (.ptr _ _ _ _ rfl)|exact .c _ _ (.frz _ _ rfl)|exact .any _),(by exact .nil),(by rfl)⟩
     have hkg:k=m1.length:=by simp at h;omega
     rw[hkg,List.drop_length]at hke
     have hall1:m1.all (zL g 1)=true:=by rw[hke];rfl
     show ALoop ..
     refine .next ?_
     refine zYE (by decide) ?_
     show ∃n,_
     refine⟨0,ALoop.inv (ι:={k:Nat // k<=m2.length/\m2.all (zL g 2)=(m2.drop k).all (zL g 2)}) (fun q=>⟨[(2,.c (.d (.rp (g.enc)))),(9,.c (.d (.sl .lists (L)))),(10,.int (i)),(11,.int (2)),(12,.int (q.1))],[],32⟩) (fun q=>m2.length-q.1) ⟨0,Nat.zero_le _,by rw[List.drop_zero]⟩ ?_ ?_⟩
     ·exact⟨[],(by repeat' first|exact .nil|refine .cons _ _ _ ?_ ?_|exact .same|exact .c _ _ (.own _ _ rfl)|exact .c _ _ (.ptr _ _ _ _ rfl)|exact .c _ _ (.frz _ _ rfl)|exact .any _),(by exact .nil),(by rfl)⟩
     rintro⟨k,hk,hke⟩
     show AOb ((0:Int)<=(i:Int)/\(i:Int)<(L.length:Int)) _
     refine⟨by omega,?_⟩
     show AOb ..
     refine⟨by decide,?_⟩
     show ABr (decide ((k:Int)<((L.getD i default).l2.length:Int))) _ _
     rw[e2]
     refine⟨fun h=>?_,fun h=>?_⟩
     ·have hkl:k<m2.length:=by simpa using h
      have wk:IntKind.i64.wrap ((k:Int)+1)=((k+1:Nat):Int):=zP (i:=k) (by unfold zA;omega)
      have hke:m2.all (zL g 2)=(zL g 2 (m2.getD k default)&&(m2.drop (k+1)).all (zL g 2)):=by
       rw[hke,List.drop_eq_getElem_cons hkl,List.all_cons,List.getD_eq_getElem?_getD,List.getElem?_eq_getElem hkl]
       rfl
      show AOb ((0:Int)<=(i:Int)/\(i:Int)<(L.length:Int)) _
      refine⟨by omega,?_⟩
      show AOb ..
      refine⟨by decide,?_⟩
      show AOb ((0:Int)<=(k:Int)/\(k:Int)<((L.getD i default).l2.length:Int)) _
      refine⟨by rw[e2];omega,?_⟩
      show ADCall _ _ [_,.int ((L.getD i default).l2.getD k default),_] _ _ _
      rw[e2]
      refine .mk _ _ (zhU g (m2.getD k default) 2 hs) rfl ?_
      show ABr (!zL g 2 (m2.getD k default)) _ _
      refine⟨fun h=>?_,fun h=>?_⟩
      ·have hf:zL g 2 (m2.getD k default)=false:=by simpa using h
       have hfa:m2.all (zL g 2)=false:=by rw[hke,hf];rfl
       show ARet ..
       refine zo (x:=false) ?_ ⟨rfl,rfl⟩
       rw[hLe,he,hfa]
       simp
      ·have hf:zL g 2 (m2.getD k default)=true:=by simpa using h
       show ARound ..
       exact⟨⟨k+1,hkl,by rw[hke,hf,Bool.true_and]⟩,(by dsimp only;omega),[],(by repeat' first|exact .nil|refine .cons _ _ _ ?_ ?_|exact .int_eq wk|exact .same|exact .c _ _ (.own _ _ rfl)|exact .c _ _ (.ptr _ _ _ _ rfl)|exact .c _ _ (.frz _ _ rfl)|exact .any _),(by exact .nil),(by rfl)⟩
     have hkg:k=m2.length:=by simp at h;omega
     rw[hkg,List.drop_length]at hke
     have hall2:m2.all (zL g 2)=true:=by rw[hke];rfl
     show ALoop ..
     refine .next ?_
     refine zNO (by decide) ?_
     show ARound ..
     exact⟨⟨i+1,hlt,by rw[he,hall0,hall1,hall2];rfl⟩,(by dsimp only;omega),[],(by repeat' first|exact .nil|refine .cons _ _ _ ?_ ?_|exact .int_eq wi|exact .same|exact .c _ _ (.own _ _ rfl)|exact .c _ _ (.ptr _ _ _ _ rfl)|exact .c _ _ (.frz _ _ rfl)|exact .any _),(by exact .nil),(by rfl)⟩
    ·have hge:i=L.length:=by simp at h;omega
     rw[hge,List.drop_length]at he
     show ACall ..
     refine za (zpL L hFl) rfl ?_
     show ARet ..
     refine zo (x:=decide (flats L).Nodup) ?_ ⟨rfl,rfl⟩
     rw[hall,hLe,he,hL]
     rfl
theorem zxc {g:Hp} {a:Int} (hs:zD g=true) (had:adr g a) (hw:∀x∈g.w,I64 x):zf g a<9223372036854775808:=by
 obtain⟨_,_,h3,_⟩:=zm hs
 have h1:=had.1;have h2:=had.2
 have hidx:(a-16).toNat<g.w.length:=by omega
 refine(hw _ ?_).2
 unfold zf at0
 rw[List.getD_eq_getElem?_getD,List.getElem?_eq_getElem hidx]
 exact List.getElem_mem hidx
theorem zjN (g:Hp) (hl:g.light) (hw:∀x∈g.w,I64 x):Spec X 84 [] [g.tv,zyb] (Ret [] (.bo (zw g []))):=
 (zq9 g [] hl (by unfold zi;simp) hw).args (.cons _ _ _ _ (.refl _) (.cons _ _ _ _ (.sl .lists [] _ rfl) .nil))
theorem zj5 (g:Hp) (a:Int) (hl:g.light) (hw:∀x∈g.w,I64 x):Spec X 42 [] [g.tv,.int a] (Ret [] (.tup [(headH g a).tv,.int (headE g a)])):=by
 refine zGO X_ok Tryz.f42 fun hb hH=>⟨rfl,?_⟩
 show ACall ..
 refine za (zjN g hl hw) rfl ?_
 show ABr (!zw g []) _ _
 refine⟨fun h=>?_,fun h=>?_⟩
 ·have hm:zw g []=false:=by simpa using h
  have hE:headE g a=1:=by unfold headE;rw[hm];rfl
  rw[zbg hE (by decide),hE]
  show ARet ..
  exact zg rfl ⟨rfl,rfl⟩
 have hm:zw g []=true:=by simpa using h
 have hs:=zF hm
 obtain⟨_,_,hsl,_,_,h64⟩:=zm hs
 show ACall ..
 refine za (zgw g.pages a) rfl ?_
 show AOb ((ze g.pages a==0)=false/\True->(0:Int)<=IntKind.i64.wrap (a-16)/\IntKind.i64.wrap (a-16)<(g.w.length:Int)) _
 refine⟨fun h=>?_,?_⟩
 ·have hr:ze g.pages a≠0:=by simpa using h.1
  obtain⟨h1,h2⟩:=zak (h:=g) hr
  rw[zu (by omega) (by omega)]
  omega
 show ABr (bif ze g.pages a==0 then true else g.w.getD (IntKind.i64.wrap (a-16)).toNat default==0) _ _
 by_cases hr:ze g.pages a=0
 ·have hE:headE g a=3:=by unfold headE;rw[hm,decide_eq_true hr];rfl
  rw[zbg hE (by decide),hE,hr]
  refine zYE (by simp) ?_
  show ARet ..
  exact zg rfl ⟨rfl,rfl⟩
 ·obtain⟨h1,h2⟩:=zak (h:=g) hr
  have ew:IntKind.i64.wrap (a-16)=a-16:=zu (by omega) (by omega)
  have hwt:=zxc hs ⟨h1,h2⟩ hw
  have hget:g.w.getD (IntKind.i64.wrap (a-16)).toNat default=zf g a:=by rw[ew];rfl
  have hb0:(ze g.pages a==0)=false:=by simpa using hr
  have hc:=(zai hm).2.2.1 a (zn.2 hr)
  unfold zah at hc
  rw[Bool.and_eq_true]at hc
  have hu:=zgV hc.1
  rw[hget,hb0]
  refine⟨fun h=>?_,fun h=>?_⟩
  ·have h0:zf g a=0:=by simpa using h
   have hE:headE g a=3:=by unfold headE;rw[hm,decide_eq_false hr,hu,h0];rfl
   rw[zbg hE (by decide),hE]
   show ARet ..
   exact zg rfl ⟨rfl,rfl⟩
  ·have h0:zf g a≠0:=by simpa using h
   have hE:headE g a=0:=by unfold headE;rw[hm,decide_eq_false hr,hu,bne_iff_ne.2 h0];rfl
   rw[zas hE,hE]
   show AOb ((0:Int)<=IntKind.i64.wrap (a-16)/\IntKind.i64.wrap (a-16)<(g.w.length:Int)) _
   refine⟨by rw[ew];omega,?_⟩
   show ACall _ _ [.int (g.w.getD (IntKind.i64.wrap (a-16)).toNat default)] _ _ _
   rw[hget]
   refine za (zim (zf g a) hwt) rfl ?_
   show ARet ..
   exact zg rfl ⟨rfl,rfl⟩
theorem zpM (g:Hp) (hl:g.light) (hw:∀x∈g.w,I64 x):Spec X 43 [] [g.tv] (Ret [(0,.data .int (zaa g))] (.c (.own 0))):=by
 refine zGO X_ok Tryz.f43 fun hb hH=>⟨rfl,?_⟩
 show ACall ..
 refine za (zjN g hl hw) rfl ?_
 show ACall ..
 refine .mk _ (zl9 g.pages) fun H r ⟨eH,er⟩ _ _=>⟨.inl rfl,?_⟩
 subst eH er
 obtain⟨A,hA⟩:∃A,A=cellStarts g.pages:=⟨_,rfl⟩
 rw[←hA]
 have hAl:A.length<=512:=by rw[hA];exact zfh g.pages
 show ∃n,_
 refine⟨0,ALoop.inv (ι:={i:Nat // i<=A.length/\(zw g []=false->i=0)}) (fun q=>⟨[(1,.c (.d (.rp (g.enc)))),(3,.c (.own 1)),(4,.bo (zw g [])),(5,.c (.d (.sl .int (A)))),(6,.int (q.1))],[(1,.data .int ((A.take q.1).filter fun a=>zf g a != 0))],64⟩) (fun q=>A.length-q.1) ⟨0,Nat.zero_le _,fun _=>rfl⟩ ?_ ?_⟩
 ·exact⟨[],(by repeat' first|exact .nil|refine .cons _ _ _ ?_ ?_|exact .c _ _ (.nilown 1 .int rfl rfl)|exact .same|exact .c _ _ (.own _ _ rfl)|exact .c _ _ (.ptr _ _ _ _ rfl)|exact .c _ _ (.frz _ _ rfl)|exact .any _),(by exact .new 1 .int _ rfl .nil),(by rfl)⟩
 ·rintro⟨i,hi,hn⟩
  show ABr (bif decide ((i:Int)<(A.length:Int)) then zw g [] else false) _ _
  refine⟨fun h=>?_,fun h=>?_⟩
  ·have hlt:i<A.length:=by
    by_cases h1:(i:Int)<(A.length:Int)
    ·omega
    ·rw[decide_eq_false h1]at h;exact absurd h (by simp)
   have hm:zw g []=true:=by rw[decide_eq_true (by omega)]at h;exact h
   have hs:=zF hm
   obtain⟨_,_,hsl,_,_,h64⟩:=zm hs
   have wi:IntKind.i64.wrap ((i:Int)+1)=((i+1:Nat):Int):=zP (i:=i) (by unfold zA;omega)
   obtain⟨x,hx⟩:∃x,x=A.getD i default:=⟨_,rfl⟩
   have hin:x∈A:=by
    rw[hx,List.getD_eq_getElem?_getD,List.getElem?_eq_getElem hlt]
    exact List.getElem_mem hlt
   obtain⟨h1,h2⟩:=zdT (h:=g) (hA▸hin)
   have ew:IntKind.i64.wrap (x-16)=x-16:=zu (by omega) (by omega)
   have hget:g.w.getD (IntKind.i64.wrap (x-16)).toNat default=zf g x:=by rw[ew];rfl
   have hst:(A.take (i+1)).filter (fun a=>zf g a != 0)=(A.take i).filter (fun a=>zf g a != 0)++(bif zf g x != 0 then [A.getD i default] else []):=by
    rw[zdf hlt,List.filter_append]
    show _++List.filter _ [A.getD i default]=_
    rw[←hx,List.filter_cons,List.filter_nil]
    cases (zf g x != 0)<;>rfl
   have hfl:((A.take i).filter (fun a=>zf g a != 0)).length<=512:=by
    refine Nat.le_trans (List.length_filter_le _ _) ?_
    rw[List.length_take];omega
   show AOb ((0:Int)<=(i:Int)/\(i:Int)<(A.length:Int)) _
   refine⟨by omega,?_⟩
   show AOb ((0:Int)<=IntKind.i64.wrap (A.getD i default-16)/\IntKind.i64.wrap (A.getD i default-16)<(g.w.length:Int)) _
   rw[←hx]
   refine⟨by rw[ew];omega,?_⟩
   show ABr (g.w.getD (IntKind.i64.wrap (A.getD i default-16)).toNat default != 0) _ _
   rw[←hx,hget]
   refine⟨fun h=>?_,fun h=>?_⟩
   ·rw[h]at hst
    show AOb ((0:Int)<=(i:Int)/\(i:Int)<(A.length:Int)) _
    refine⟨by omega,?_⟩
    show AOb (((A.take i).filter (fun a=>zf g a != 0)).length+1<=zi) _
    refine⟨by unfold zi;omega,?_⟩
    show ARound ..
    exact⟨⟨i+1,hlt,fun e=>absurd e (by rw[hm];decide)⟩,(by dsimp only;omega),[(_,1)],(by repeat' first|exact .nil|refine .cons _ _ _ ?_ ?_|exact .c _ _ (.own1 _ _)|exact .int_eq wi|exact .same|exact .c _ _ (.own _ _ rfl)|exact .c _ _ (.ptr _ _ _ _ rfl)|exact .c _ _ (.frz _ _ rfl)|exact .any _),(by exact .old 1 _ _ _ _ rfl rfl (.data_eq hst.symm) .nil),(by rfl)⟩
   ·rw[h]at hst
    show ARound ..
    exact⟨⟨i+1,hlt,fun e=>absurd e (by rw[hm];decide)⟩,(by dsimp only;omega),[(1,1)],(by repeat' first|exact .nil|refine .cons _ _ _ ?_ ?_|exact .int_eq wi|exact .same|exact .c _ _ (.own _ _ rfl)|exact .c _ _ (.ptr _ _ _ _ rfl)|exact .c _ _ (.frz _ _ rfl)|exact .any _),(by exact .old 1 1 _ _ _ rfl rfl (.data_eq ((List.append_nil _).symm.trans hst.symm)) .nil),(by rfl)⟩
  ·have hfin:(A.take i).filter (fun a=>zf g a != 0)=zaa g:=by
    unfold zaa
    rw[←hA]
    cases hm:zw g [] with
    |false=>rw[hn hm];rfl
    |true=>
     rw[hm]at h
     have hge:i=A.length:=by
      by_cases h1:(i:Int)<(A.length:Int)
      ·rw[decide_eq_true h1]at h;exact absurd h (by simp)
      ·omega
     rw[hge,List.take_length]
     rfl
   show ARet ..
   exact⟨[(1,0)],[(0,.data .int (zaa g))],[.c (.own 0)],.cons _ _ _ _ (.c _ _ (.own1 _ _)) .nil,.old 0 1 _ _ _ rfl rfl (.data_eq hfin) .nil,rfl,rfl,rfl⟩
end Go.Abs
