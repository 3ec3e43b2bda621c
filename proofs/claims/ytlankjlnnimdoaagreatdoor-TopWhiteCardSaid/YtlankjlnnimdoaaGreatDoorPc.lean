/- Walks and plain laws: WLists1, WRAll. -/
import Derived.Test.YtlankjlnnimdoaaGreatDoorPa
import Derived.Test.YtlankjlnnimdoaaGreatDoorAbsBase1
import Derived.Test.YtlankjlnnimdoaaGreatDoorPb
set_option linter.all false
namespace Go.Abs
open Go.Proofs Go.Proofs.YtlankjlnnimdoaaGreatDoor
set_option maxRecDepth 8000
abbrev zww:TV:=.c (.d (.lit (.slice none 0 0)))
theorem zvC:Spec X 184 [] [zww,.int 0] (Ret [] zww):=by
 refine zGO X_ok Tryz.f184 fun hb hH=>⟨rfl,?_⟩
 refine zNO (by decide) ?_
 refine zNO (by decide) ?_
 show ARet ..
 exact zg rfl ⟨rfl,rfl⟩
theorem zt3 (n:Nat) (h0:0<n) (h1:n<=zi):Spec X 184 [] [zww,.int n] (Ret [(0,.data .int (List.replicate n (0:Int)))] (.c (.view 0 0 0))):=by
 refine zGO X_ok Tryz.f184 fun hb hH=>⟨rfl,?_⟩
 unfold zi at h1
 have hw:IntKind.i64.wrap ((n:Int)-IntKind.i64.wrap (0-0))=(n:Int):=by
  have:IntKind.i64.wrap ((0:Int)-0)=0:=by decide
  rw[this,zu (by omega) (by omega)];omega
 show ABr (decide ((n:Int)<0)) _ _
 refine⟨fun h=>absurd h (by simp),fun _=>?_⟩
 show ABr (decide (IntKind.i64.wrap ((n:Int)-IntKind.i64.wrap (0-0))>0)) _ _
 refine⟨fun _=>?_,fun h=>absurd h (by rw[hw];simp;omega)⟩
 show AOb ..
 refine⟨by decide,?_⟩
 show AOb (0<=IntKind.i64.wrap ((n:Int)-IntKind.i64.wrap (0-0))/\IntKind.i64.wrap ((n:Int)-IntKind.i64.wrap (0-0))<=(zi:Int)) _
 refine⟨by rw[hw];unfold zi;omega,?_⟩
 show AOb ((0:Int)<=0/\(0:Int)<=((List.replicate (IntKind.i64.wrap ((n:Int)-IntKind.i64.wrap (0-0))).toNat (0:Int)).length:Int)) _
 refine⟨by omega,?_⟩
 show ARet ..
 refine⟨[(608,0)],[(0,.data .int (List.replicate n (0:Int)))],[.c (.view 0 0 0)],.cons _ _ _ _ (.c _ _ (.view _ _ _ _ rfl)) .nil,.old 0 608 _ _ _ rfl rfl (.data_eq ?_) .nil,rfl,rfl,rfl⟩
 rw[hw]
 rfl
theorem zn8 (a b c:List Int) (h:a.length+b.length+c.length<=zi):Spec X 138 [] [.c (.d (.sl .ints [a,b,c]))] (Ret [(0,.data .int (a++b++c))] (.c (.own 0))):=by
 refine zGO X_ok Tryz.f138 fun hb hH=>⟨rfl,?_⟩
 have hm:a.length+b.length+c.length<=68719476736:=h
 have w1:IntKind.i64.wrap ((0:Int)+a.length)=(a.length:Int):=by rw[zu (by omega) (by omega)];omega
 have w2:IntKind.i64.wrap ((a.length:Int)+b.length)=((a.length+b.length:Nat):Int):=by rw[zu (by omega) (by omega)];omega
 have w3:IntKind.i64.wrap (((a.length+b.length:Nat):Int)+c.length)=((a.length+b.length+c.length:Nat):Int):=by rw[zu (by omega) (by omega)];omega
 have x2:IntKind.i64.wrap (IntKind.i64.wrap ((0:Int)+a.length)+b.length)=((a.length+b.length:Nat):Int):=by rw[w1,w2]
 have x3:IntKind.i64.wrap (IntKind.i64.wrap (IntKind.i64.wrap ((0:Int)+a.length)+b.length)+c.length)=((a.length+b.length+c.length:Nat):Int):=by rw[x2,w3]
 show ∃n,_
 refine⟨4,.next ?_⟩
 show ABr (decide ((0:Int)<3)) _ _
 refine⟨fun _=>?_,fun h=>absurd h (by decide)⟩
 show AOb ((0:Int)<=0/\(0:Int)<3) _
 refine⟨by decide,?_⟩
 show ABr (decide (IntKind.i64.wrap ((0:Int)+a.length)<0)) _ _
 refine⟨fun h=>absurd h (by rw[w1];simp;try omega),fun _=>?_⟩
 show ALoop ..
 refine .next ?_
 show ABr (decide ((1:Int)<3)) _ _
 refine⟨fun _=>?_,fun h=>absurd h (by decide)⟩
 show AOb ((0:Int)<=1/\(1:Int)<3) _
 refine⟨by decide,?_⟩
 show ABr (decide (IntKind.i64.wrap (IntKind.i64.wrap ((0:Int)+a.length)+b.length)<0)) _ _
 refine⟨fun h=>absurd h (by rw[x2];simp;try omega),fun _=>?_⟩
 show ALoop ..
 refine .next ?_
 show ABr (decide ((2:Int)<3)) _ _
 refine⟨fun _=>?_,fun h=>absurd h (by decide)⟩
 show AOb ((0:Int)<=2/\(2:Int)<3) _
 refine⟨by decide,?_⟩
 show ABr (decide (IntKind.i64.wrap (IntKind.i64.wrap (IntKind.i64.wrap ((0:Int)+a.length)+b.length)+c.length)<0)) _ _
 refine⟨fun h=>absurd h (by rw[x3];simp;try omega),fun _=>?_⟩
 show ALoop ..
 refine .next ?_
 show ABr (decide ((3:Int)<3)) _ _
 refine⟨fun h=>absurd h (by decide),fun _=>?_⟩
 show ACall _ _ [zww,.int (IntKind.i64.wrap (IntKind.i64.wrap (IntKind.i64.wrap ((0:Int)+a.length)+b.length)+c.length))] _ _ _
 rw[x3]
 by_cases h0:a.length+b.length+c.length=0
 ·have ea:a=[]:=List.eq_nil_of_length_eq_zero (by omega)
  have eb:b=[]:=List.eq_nil_of_length_eq_zero (by omega)
  have ec:c=[]:=List.eq_nil_of_length_eq_zero (by omega)
  subst ea eb ec
  refine za zvC rfl ?_
  show ∃n,_
  refine⟨4,.next ?_⟩
  show ABr (decide ((0:Int)<3)) _ _
  refine⟨fun _=>?_,fun h=>absurd h (by decide)⟩
  show AOb ((0:Int)<=0/\(0:Int)<3) _
  refine⟨by decide,?_⟩
  show AOb ..
  refine⟨Nat.zero_le _,?_⟩
  show ALoop ..
  refine .next ?_
  show ABr (decide ((1:Int)<3)) _ _
  refine⟨fun _=>?_,fun h=>absurd h (by decide)⟩
  show AOb ((0:Int)<=1/\(1:Int)<3) _
  refine⟨by decide,?_⟩
  show AOb ..
  refine⟨Nat.zero_le _,?_⟩
  show ALoop ..
  refine .next ?_
  show ABr (decide ((2:Int)<3)) _ _
  refine⟨fun _=>?_,fun h=>absurd h (by decide)⟩
  show AOb ((0:Int)<=2/\(2:Int)<3) _
  refine⟨by decide,?_⟩
  show AOb ..
  refine⟨Nat.zero_le _,?_⟩
  show ALoop ..
  refine .next ?_
  show ABr (decide ((3:Int)<3)) _ _
  refine⟨fun h=>absurd h (by decide),fun _=>?_⟩
  show ARet ..
  exact⟨[(_,0)],[(0,.data .int [])],[.c (.own 0)],.cons _ _ _ _ (.c _ _ (.own1 _ _)) .nil,.old 0 _ _ _ _ rfl rfl (.data_eq rfl) .nil,rfl,rfl,rfl⟩
 ·refine .mk _ (zt3 _ (by omega) h) ?_
  rintro H r ⟨rfl,rfl⟩ _ _
  refine⟨.inl rfl,?_⟩
  show ∃n,_
  refine⟨4,.next ?_⟩
  show ABr (decide ((0:Int)<3)) _ _
  refine⟨fun _=>?_,fun h=>absurd h (by decide)⟩
  show AOb ((0:Int)<=0/\(0:Int)<3) _
  refine⟨by decide,?_⟩
  show AOb (0+a.length<=zi) _
  refine⟨by omega,?_⟩
  show ALoop ..
  refine .next ?_
  show ABr (decide ((1:Int)<3)) _ _
  refine⟨fun _=>?_,fun h=>absurd h (by decide)⟩
  show AOb ((0:Int)<=1/\(1:Int)<3) _
  refine⟨by decide,?_⟩
  show AOb (((List.replicate (a.length+b.length+c.length) (0:Int)).take 0++a).length+b.length<=zi) _
  refine⟨by simp;omega,?_⟩
  show ALoop ..
  refine .next ?_
  show ABr (decide ((2:Int)<3)) _ _
  refine⟨fun _=>?_,fun h=>absurd h (by decide)⟩
  show AOb ((0:Int)<=2/\(2:Int)<3) _
  refine⟨by decide,?_⟩
  show AOb (((List.replicate (a.length+b.length+c.length) (0:Int)).take 0++a++b).length+c.length<=zi) _
  refine⟨by simp;omega,?_⟩
  show ALoop ..
  refine .next ?_
  show ABr (decide ((3:Int)<3)) _ _
  refine⟨fun h=>absurd h (by decide),fun _=>?_⟩
  show ARet ..
  refine⟨[(_,0)],[(0,.data .int (a++b++c))],[.c (.own 0)],.cons _ _ _ _ (.c _ _ (.own1 _ _)) .nil,.old 0 _ _ _ _ rfl rfl (.data_eq ?_) .nil,rfl,rfl,rfl⟩
  show(List.replicate (a.length+b.length+c.length) (0:Int)).take 0++a++b++c=_
  simp
structure Rev (l m:List Int) (o n i:Nat):Prop where
 len:m.length=l.length
 out:∀p,(p<o\/o+n<=p)->at0 m p=at0 l p
 ins:∀q,q<n->at0 m (o+q)=if q<i\/n<=q+i then at0 l (o+(n-1-q)) else at0 l (o+q)
theorem Rev.step {l m:List Int} {o n i:Nat} (h:Rev l m o n i) (hi:2*i+1<n) (hn:o+n<=l.length):Rev l (swp m (o+i) (o+(n-1-i))) o n (i+1):=by
 have hl:=h.len
 refine⟨(ztg _ _ _).trans hl,fun p hp=>?_,fun q hq=>?_⟩
 ·rw[zro m _ _ _ (by omega) (by omega),if_neg (by omega),if_neg (by omega)]
  exact h.out p hp
 ·rw[zro m _ _ _ (by omega) (by omega)]
  by_cases h1:q=n-1-i
  ·subst h1
   rw[if_pos rfl,h.ins i (by omega),if_neg (by omega),if_pos (by omega)]
   congr 1
   omega
  ·rw[if_neg (by omega)]
   by_cases h2:q=i
   ·subst h2
    rw[if_pos rfl,h.ins (n-1-q) (by omega),if_neg (by omega),if_pos (by omega)]
   ·rw[if_neg (by omega),h.ins q hq]
    by_cases h3:q<i\/n<=q+i
    ·rw[if_pos h3,if_pos (by omega)]
    ·rw[if_neg h3,if_neg (by omega)]
theorem zwH {l m:List Int} (hl:l.length=m.length) (h:∀p,p<l.length->at0 l p=at0 m p):l=m:=by
 refine List.ext_getElem hl fun p h1 h2=>?_
 have:=h p h1
 unfold at0 at this
 rw[List.getD_eq_getElem?_getD,List.getD_eq_getElem?_getD,List.getElem?_eq_getElem h1,List.getElem?_eq_getElem h2]at this
 exact this
def zcH (l:List Int) (o n:Nat):List Int:=l.take o++((l.drop o).take n).reverse++l.drop (o+n)
theorem zig (l:List Int) (o n:Nat) (hn:o+n<=l.length):(zcH l o n).length=l.length:=by
 unfold zcH
 simp
 omega
theorem zgM (l m:List Int) (p:Nat):at0 (l++m) p=if p<l.length then at0 l p else at0 m (p-l.length):=by
 unfold at0
 rw[List.getD_eq_getElem?_getD,List.getD_eq_getElem?_getD,List.getD_eq_getElem?_getD,List.getElem?_append]
 split<;>rfl
theorem zir (l:List Int) (o p:Nat):at0 (l.drop o) p=at0 l (o+p):=by
 unfold at0
 rw[List.getD_eq_getElem?_getD,List.getD_eq_getElem?_getD,List.getElem?_drop]
theorem ziT (l:List Int) (o p:Nat) (h:p<o):at0 (l.take o) p=at0 l p:=by
 unfold at0
 rw[List.getD_eq_getElem?_getD,List.getD_eq_getElem?_getD,List.getElem?_take,if_pos h]
theorem zwS (l:List Int) (p:Nat) (h:p<l.length):at0 l.reverse p=at0 l (l.length-1-p):=by
 unfold at0
 rw[List.getD_eq_getElem?_getD,List.getD_eq_getElem?_getD,List.getElem?_reverse h]
theorem Rev.done {l m:List Int} {o n i:Nat} (h:Rev l m o n i) (hi:n<=2*i+1) (hn:o+n<=l.length):m=zcH l o n:=by
 refine zwH (h.len.trans (zig l o n hn).symm) fun p hp=>?_
 unfold zcH
 rw[zgM,zgM]
 have e1:(l.take o).length=o:=by simp;omega
 have e2:((l.drop o).take n).reverse.length=n:=by simp;omega
 rw[List.length_append,e1,e2]
 by_cases h1:p<o
 ·rw[if_pos (by omega),if_pos h1,ziT _ _ _ h1]
  exact h.out p (.inl h1)
 ·by_cases h2:p<o+n
  ·rw[if_pos h2,if_neg h1,zwS _ _ (by simp;omega),ziT _ _ _ (by simp;omega),zir]
   have e3:((l.drop o).take n).length=n:=by simp;omega
   rw[e3]
   have:=h.ins (p-o) (by omega)
   rw[show o+(p-o)=p by omega]at this
   rw[this]
   by_cases h3:p-o<i\/n<=p-o+i
   ·rw[if_pos h3]
   ·rw[if_neg h3]
    congr 1
    omega
  ·rw[if_neg h2,zir,h.out p (.inr (by omega))]
   congr 1
   omega
theorem zdG (l:List Int) (o n:Nat) (hn:o+n<=l.length):Spec X 268 (zcL l) [.c (.view 16 o n)] (fun H r=>r = .tup []/\H=zcL (zcH l o n)):=by
 refine zGO X_ok Tryz.f268 fun hb hH=>⟨rfl,?_⟩
 have hmax:l.length<=zA:=hH 16 .int l rfl
 unfold zA at hmax
 show ∃n,_
 refine⟨0,ALoop.inv (ι:={p:List Int×Nat // Rev l p.1 o n p.2/\2*p.2<=n+1}) (fun p=>⟨[(0,.c (.view 16 o n)),(2,.int p.1.2),(3,.int ((n:Int)-1-p.1.2))],[(16,.data .int p.1.1)],64⟩) (fun p=>n-p.1.2) ⟨(l,0),⟨rfl,fun _ _=>rfl,fun q hq=>by rw[if_neg (by omega)]⟩,by show 2*0<=n+1;omega⟩ ?_ ?_⟩
 ·refine⟨[(16,16)],.cons _ _ _ (.c _ _ (.view _ _ _ _ rfl)) (.cons _ _ _ .same (.cons _ _ _ (.int_eq ?_) .nil)),.old 16 16 _ _ _ rfl rfl (.data_eq rfl) .nil,rfl⟩
  rw[zu (by omega) (by omega)]
  show(n:Int)-1=(n:Int)-1-((0:Nat):Int)
  omega
 ·rintro⟨⟨m,i⟩,hR,hi⟩
  have hml:m.length=l.length:=hR.len
  have hi' : 2*i<=n+1:=hi
  show ABr (decide ((i:Int)<(n:Int)-1-(i:Int))) _ _
  refine⟨fun(h:decide ((i:Int)<(n:Int)-1-(i:Int))=true)=>?_,fun(h:decide ((i:Int)<(n:Int)-1-(i:Int))=false)=>?_⟩
  ·have hlt:2*i+1<n:=by simp at h;omega
   show AOb ((0:Int)<=(n:Int)-1-(i:Int)/\(n:Int)-1-(i:Int)<(n:Int)) _
   refine⟨by omega,?_⟩
   show AOb (o+((n:Int)-1-(i:Int)).toNat<m.length) _
   refine⟨by omega,?_⟩
   show AOb ((0:Int)<=(i:Int)/\(i:Int)<(n:Int)) _
   refine⟨by omega,?_⟩
   show AOb (o+(i:Int).toNat<m.length) _
   refine⟨by omega,?_⟩
   show AOb ((0:Int)<=(i:Int)/\(i:Int)<(n:Int)) _
   refine⟨by omega,?_⟩
   show AOb (o+(i:Int).toNat<m.length) _
   refine⟨by omega,?_⟩
   show AOb ((0:Int)<=(n:Int)-1-(i:Int)/\(n:Int)-1-(i:Int)<(n:Int)) _
   refine⟨by omega,?_⟩
   show AOb (o+((n:Int)-1-(i:Int)).toNat<(m.set (o+(i:Int).toNat) (at0 m (o+((n:Int)-1-(i:Int)).toNat))).length) _
   refine⟨by simp only[List.length_set];omega,?_⟩
   show ARound ..
   refine⟨⟨(swp m (o+i) (o+(n-1-i)),i+1),hR.step hlt hn,by show 2*(i+1)<=n+1;omega⟩,by show n-(i+1)<n-i;omega,[(16,16)],.cons _ _ _ (.c _ _ (.view _ _ _ _ rfl)) (.cons _ _ _ (.int_eq ?_) (.cons _ _ _ (.int_eq ?_) .nil)),.old 16 16 _ _ _ rfl rfl (.data_eq ?_) .nil,rfl⟩
   ·show IntKind.i64.wrap ((i:Int)+1)=((i+1:Nat):Int)
    rw[zu (by omega) (by omega)];omega
   ·show IntKind.i64.wrap ((n:Int)-1-(i:Int)-1)=(n:Int)-1-((i+1:Nat):Int)
    rw[zu (by omega) (by omega)];omega
   ·show(m.set (o+(i:Int).toNat) (at0 m (o+((n:Int)-1-(i:Int)).toNat))).set (o+((n:Int)-1-(i:Int)).toNat) (at0 m (o+(i:Int).toNat))=swp m (o+i) (o+(n-1-i))
    have e:((n:Int)-1-(i:Int)).toNat=n-1-i:=by omega
    rw[e]
    rfl
  ·have hge:n<=2*i+1:=by simp at h;omega
   show ARet ..
   refine⟨[(16,16)],zcL m,[],.nil,.old 16 16 _ _ _ rfl rfl (.data_eq rfl) .nil,rfl,rfl,?_⟩
   exact congrArg zcL (hR.done hge hn)
def zuH (l:List Int) (n:Nat):Prop:=∀i,i+1<n->at0 l i≠at0 l (i+1)
def zyk (l:List Int):zh->TV->Prop:=fun H r=>∃m n,H=zcL m/\r = .c (.view 16 0 n)/\n<=m.length/\m.length=l.length/\(n=l.length↔zuH l l.length)
theorem zn5 (l:List Int):Spec X 106 (zcL l) [.c (.own 16)] (zyk l):=by
 refine zGO X_ok Tryz.f106 fun hb hH=>⟨rfl,?_⟩
 have hmax:l.length<=zA:=hH 16 .int l rfl
 unfold zA at hmax
 show ABr (decide ((l.length:Int)<2)) _ _
 refine⟨fun h=>?_,fun h=>?_⟩
 ·have hlt:l.length<2:=by simp at h;omega
  show ARet ..
  exact⟨[(16,16)],zcL l,[.c (.view 16 0 l.length)],.cons _ _ _ _ (.c _ _ (.whole _ _ _ rfl rfl)) .nil,.old 16 16 _ _ _ rfl rfl (.data_eq rfl) .nil,rfl,l,l.length,rfl,rfl,Nat.le_refl _,rfl,⟨fun _ i hi=>by omega,fun _=>rfl⟩⟩
 ·have hge:2<=l.length:=by simp at h;omega
  show ∃n,_
  refine⟨0,ALoop.inv (ι:={k:Nat // 1<=k/\k<=l.length/\zuH l k}) (fun k=>⟨[(0,.c (.own 16)),(3,.int k.1)],[(16,.data .int l)],64⟩) (fun k=>l.length-k.1) ⟨1,Nat.le_refl _,by omega,fun i hi=>by omega⟩ ?_ ?_⟩
  ·exact⟨[(16,16)],.cons _ _ _ (.c _ _ (.own _ _ rfl)) (.cons _ _ _ .same .nil),.old 16 16 _ _ _ rfl rfl (.data_eq rfl) .nil,rfl⟩
  ·rintro⟨k,hk1,hkl,hno⟩
   show ABr (decide ((k:Int)<(l.length:Int))) _ _
   refine⟨fun h=>?_,fun h=>?_⟩
   ·have hlt:k<l.length:=by simpa using h
    have hw:IntKind.i64.wrap ((k:Int)-1)=((k-1:Nat):Int):=ziV (by unfold zA;omega) (by omega)
    show AOb ((0:Int)<=(k:Int)/\(k:Int)<(l.length:Int)) _
    refine⟨by omega,?_⟩
    show AOb ((k:Int).toNat<l.length) _
    refine⟨by omega,?_⟩
    show AOb ((0:Int)<=IntKind.i64.wrap ((k:Int)-1)/\IntKind.i64.wrap ((k:Int)-1)<(l.length:Int)) _
    refine⟨by rw[hw];omega,?_⟩
    show AOb ((IntKind.i64.wrap ((k:Int)-1)).toNat<l.length) _
    refine⟨by rw[hw];omega,?_⟩
    have e1:(IntKind.i64.wrap ((k:Int)-1)).toNat=k-1:=by rw[hw];omega
    show ABr (decide (at0 l k=at0 l (IntKind.i64.wrap ((k:Int)-1)).toNat)) _ _
    rw[e1]
    refine⟨fun h2=>?_,fun h2=>?_⟩
    ·have hdup:at0 l k=at0 l (k-1):=by simpa using h2
     show AOb ((0:Int)<=(k:Int)/\(k:Int)<=(l.length:Int)) _
     refine⟨by omega,?_⟩
     show ∃n,_
     refine⟨0,ALoop.inv (ι:={p:List Int×Nat×Nat // p.1.length=l.length/\k<=p.2.1/\p.2.1<k+p.2.2/\1<=p.2.2/\k+p.2.2<=l.length}) (fun p=>⟨[(0,.c (.own 16)),(3,.int p.1.2.1),(4,.c (.view 16 k ((l.length:Int)-(k:Int)).toNat)),(5,.int p.1.2.2)],[(16,.data .int p.1.1)],64⟩) (fun p=>l.length-p.1.2.2) ⟨(l,k,1),rfl,Nat.le_refl _,by show k<k+1;omega,Nat.le_refl _,by show k+1<=l.length;omega⟩ ?_ ?_⟩
     ·exact⟨[(16,16)],.cons _ _ _ (.c _ _ (.own _ _ rfl)) (.cons _ _ _ .same (.cons _ _ _ (.c _ _ (.view _ _ _ _ rfl)) (.cons _ _ _ .same .nil))),.old 16 16 _ _ _ rfl rfl (.data_eq rfl) .nil,rfl⟩
     ·rintro⟨⟨m,q,k2⟩,hm,hq,hq2,hk2,hkk⟩
      have hm:m.length=l.length:=hm
      have hq:k<=q:=hq
      have hq2:q<k+k2:=hq2
      have hk2:1<=k2:=hk2
      have hkk:k+k2<=l.length:=hkk
      show ABr (decide ((k2:Int)<((((l.length:Int)-(k:Int)).toNat:Nat):Int))) _ _
      refine⟨fun h=>?_,fun h=>?_⟩
      ·have hlt2:k+k2<l.length:=by simp at h;omega
       have hw2:IntKind.i64.wrap ((k2:Int)-1)=((k2-1:Nat):Int):=ziV (by unfold zA;omega) (by omega)
       show AOb ((0:Int)<=(k2:Int)/\(k2:Int)<((((l.length:Int)-(k:Int)).toNat:Nat):Int)) _
       refine⟨by omega,?_⟩
       show AOb (k+(k2:Int).toNat<m.length) _
       refine⟨by omega,?_⟩
       show AOb ((0:Int)<=IntKind.i64.wrap ((k2:Int)-1)/\IntKind.i64.wrap ((k2:Int)-1)<((((l.length:Int)-(k:Int)).toNat:Nat):Int)) _
       refine⟨by rw[hw2];omega,?_⟩
       show AOb (k+(IntKind.i64.wrap ((k2:Int)-1)).toNat<m.length) _
       refine⟨by rw[hw2];omega,?_⟩
       show ABr ..
       refine⟨fun _=>?_,fun _=>?_⟩
       ·show AOb ((0:Int)<=(k2:Int)/\(k2:Int)<((((l.length:Int)-(k:Int)).toNat:Nat):Int)) _
        refine⟨by omega,?_⟩
        show AOb (k+(k2:Int).toNat<m.length) _
        refine⟨by omega,?_⟩
        show AOb ((0:Int)<=(q:Int)/\(q:Int)<(m.length:Int)) _
        refine⟨by omega,?_⟩
        show AOb ((q:Int).toNat<m.length) _
        refine⟨by omega,?_⟩
        show ARound ..
        exact⟨⟨(m.set q (at0 m (k+k2)),q+1,k2+1),by show(m.set q _).length=_;rw[List.length_set];exact hm,by show k<=q+1;omega,by show q+1<k+(k2+1);omega,by show 1<=k2+1;omega,by show k+(k2+1)<=l.length;omega⟩,by show l.length-(k2+1)<l.length-k2;omega,[(16,16)],.cons _ _ _ (.c _ _ (.own _ _ rfl)) (.cons _ _ _ (.int_eq (zP (i:=q) (by unfold zA;omega))) (.cons _ _ _ (.c _ _ (.view _ _ _ _ rfl)) (.cons _ _ _ (.int_eq (zP (i:=k2) (by unfold zA;omega))) .nil))),.old 16 16 _ _ _ rfl rfl (.data_eq rfl) .nil,rfl⟩
       ·show ARound ..
        exact⟨⟨(m,q,k2+1),hm,hq,by show q<k+(k2+1);omega,by show 1<=k2+1;omega,by show k+(k2+1)<=l.length;omega⟩,by show l.length-(k2+1)<l.length-k2;omega,[(16,16)],.cons _ _ _ (.c _ _ (.own _ _ rfl)) (.cons _ _ _ .same (.cons _ _ _ (.c _ _ (.view _ _ _ _ rfl)) (.cons _ _ _ (.int_eq (zP (i:=k2) (by unfold zA;omega))) .nil))),.old 16 16 _ _ _ rfl rfl (.data_eq rfl) .nil,rfl⟩
      ·show AOb ((0:Int)<=(q:Int)/\(q:Int)<=(m.length:Int)) _
       refine⟨by omega,?_⟩
       show AOb ((0:Int)<=(q:Int)/\(q:Int)<=((zM m (q:Int).toNat (List.replicate ((m.length:Int)-(q:Int)).toNat (0:Int))).length:Int)) _
       have hspl:(zM m (q:Int).toNat (List.replicate ((m.length:Int)-(q:Int)).toNat (0:Int))).length=m.length:=by unfold zM;simp;omega
       refine⟨by rw[hspl];omega,?_⟩
       show ARet ..
       refine⟨[(16,16)],zcL (zM m (q:Int).toNat (List.replicate ((m.length:Int)-(q:Int)).toNat (0:Int))),[.c (.view 16 0 q)],.cons _ _ _ _ ?_ .nil,.old 16 16 _ _ _ rfl rfl (.data_eq rfl) .nil,rfl,_,q,rfl,rfl,by rw[hspl];omega,by rw[hspl];exact hm,⟨fun h=>by omega,fun h=>absurd (h (k-1) (by omega)) (by rw[show k-1+1=k by omega];exact fun hc=>hc hdup.symm)⟩⟩
       have e:(((some (q:Int)).getD ((List.length (α:=Int) (zM m (q:Int).toNat (List.replicate ((m.length:Int)-(q:Int)).toNat (0:Int))):Nat):Int))-(none.getD 0:Int)).toNat=q:=by simp
       show LeT _ _ _ (.c (.view 16 _ (((some (q:Int)).getD ((List.length (α:=Int) (zM m (q:Int).toNat (List.replicate ((m.length:Int)-(q:Int)).toNat (0:Int))):Nat):Int))-(none.getD 0:Int)).toNat)) _
       rw[e]
       exact .c _ _ (.view _ _ _ _ rfl)
    ·have hne:at0 l k≠at0 l (k-1):=by simpa using h2
     show ARound ..
     exact⟨⟨k+1,by omega,by omega,fun i hi=>by
      by_cases hik:i+1=k
      ·subst hik;exact fun hc=>hne (by simpa using hc.symm)
      ·exact hno i (by omega)⟩,by show l.length-(k+1)<l.length-k;omega,[(16,16)],.cons _ _ _ (.c _ _ (.own _ _ rfl)) (.cons _ _ _ (.int_eq (zP (i:=k) (by unfold zA;omega))) .nil),.old 16 16 _ _ _ rfl rfl (.data_eq rfl) .nil,rfl⟩
   ·have hk:k=l.length:=by simp at h;omega
    show ARet ..
    exact⟨[(16,16)],zcL l,[.c (.view 16 0 l.length)],.cons _ _ _ _ (.c _ _ (.whole _ _ _ rfl rfl)) .nil,.old 16 16 _ _ _ rfl rfl (.data_eq rfl) .nil,rfl,l,l.length,rfl,rfl,Nat.le_refl _,rfl,⟨fun _=>hk▸hno,fun _=>rfl⟩⟩
theorem zcj (c:Int):Spec X 261 [] [.int c] (Ret [] (.bo (cond (decide (c>=0)) (decide (c<3)) false))):=by
 refine zGO X_ok Tryz.f261 fun _ _=>⟨rfl,?_⟩
 show ARet ..
 exact zo rfl ⟨rfl,rfl⟩
theorem LeC.frzv {ρ:List (Nat×Nat)} {h h' : zh} {k:EK} {l l' : List k.T} {b o m:Nat} (h1:(za2 ρ b).isNone=true) (h2:zj h b=some (.data k l)) (h3:o+m<=l.length) (h4:(l.drop o).take m=l'):LeC ρ h h' (.view b o m) (.d (.sl k l')):=by
 subst h4
 refine .frz _ _ ?_
 show zbE _ _ (7+1) _=_
 simp only[zbE]
 rw[h1,h2]
 have:Nat.ble (o+m) l.length=true:=by rw[Nat.ble_eq];exact h3
 simp only[this,cond_true]
theorem zrF (l:List Int):zM (List.replicate ((l.length:Int)).toNat (0:Int)) 0 (l.take (List.replicate ((l.length:Int)).toNat (0:Int)).length)=l:=by
 unfold zM
 simp
theorem zaH (l:Lists) (h:l.ok):Spec X 262 [] [l.tv] (Ret [(0,.data .int l.l0),(1,.data .int l.l1),(2,.data .int l.l2)] (.agg [.own 0,.own 1,.own 2])):=by
 refine zGO X_ok Tryz.f262 fun _ _=>⟨rfl,?_⟩
 show ∃n,_
 refine⟨4,.next ?_⟩
 show ABr ..
 refine⟨fun _=>?_,fun hb=>absurd hb (by decide)⟩
 show AOb ..
 refine⟨by decide,?_⟩
 show AOb ((0:Int)<=(l.l0.length:Int)/\(l.l0.length:Int)<=(l.l0.length:Int)/\(l.l0.length:Int)<=(zi:Int)) _
 refine⟨by have:=h.1;omega,?_⟩
 show AOb ..
 refine⟨by decide,?_⟩
 show AOb ..
 refine⟨by decide,?_⟩
 show AOb ..
 refine⟨by decide,?_⟩
 show ALoop ..
 refine .next ?_
 show ABr ..
 refine⟨fun _=>?_,fun hb=>absurd hb (by decide)⟩
 show AOb ..
 refine⟨by decide,?_⟩
 show AOb ((0:Int)<=(l.l1.length:Int)/\(l.l1.length:Int)<=(l.l1.length:Int)/\(l.l1.length:Int)<=(zi:Int)) _
 refine⟨by have:=h.2.1;omega,?_⟩
 show AOb ..
 refine⟨by decide,?_⟩
 show AOb ..
 refine⟨by decide,?_⟩
 show AOb ..
 refine⟨by decide,?_⟩
 show ALoop ..
 refine .next ?_
 show ABr ..
 refine⟨fun _=>?_,fun hb=>absurd hb (by decide)⟩
 show AOb ..
 refine⟨by decide,?_⟩
 show AOb ((0:Int)<=(l.l2.length:Int)/\(l.l2.length:Int)<=(l.l2.length:Int)/\(l.l2.length:Int)<=(zi:Int)) _
 refine⟨by have:=h.2.2;omega,?_⟩
 show AOb ..
 refine⟨by decide,?_⟩
 show AOb ..
 refine⟨by decide,?_⟩
 show AOb ..
 refine⟨by decide,?_⟩
 show ALoop ..
 refine .next ?_
 show ABr ..
 refine⟨fun hb=>absurd hb (by decide),fun _=>?_⟩
 show ARet ..
 exact⟨[(416,0),(1056,1),(1696,2)],[(0,.data .int l.l0),(1,.data .int l.l1),(2,.data .int l.l2)],[.agg [.own 0,.own 1,.own 2]],.cons _ _ _ _ (.agg _ _ (.cons _ _ _ _ (.own _ _ rfl) (.cons _ _ _ _ (.own _ _ rfl) (.cons _ _ _ _ (.own _ _ rfl) .nil)))) .nil,
  .old 0 416 _ _ _ rfl rfl (.data_eq (zrF l.l0)) (.old 1 1056 _ _ _ rfl rfl (.data_eq (zrF l.l1)) (.old 2 1696 _ _ _ rfl rfl (.data_eq (zrF l.l2)) .nil)),rfl,rfl,rfl⟩
def Lists.at_ (l:Lists) (c:Int):List Int:=if c=0 then l.l0 else if c=1 then l.l1 else l.l2
def Lists.set_ (l:Lists) (c:Int) (x:List Int):Lists:=if c=0 then {l with l0:=x} else if c=1 then {l with l1:=x} else {l with l2:=x}
def Lists.zero:Lists:=⟨[],[],[]⟩
theorem zeW (l:Lists) (c:Int) (a:List Int) (h:0<=c/\c<=2) (hok:l.ok) (hm:(l.at_ c).length+a.length<=zi):Spec X 240 [] [l.tv,.int c,.c (.d (.sl .int a))] (Ret [] (.tup [(l.set_ c (l.at_ c++a)).tv,.int 0])):=by
 refine zGO X_ok Tryz.f240 fun _ _=>⟨rfl,?_⟩
 have hc:c=0\/c=1\/c=2:=by omega
 rcases hc with rfl|rfl|rfl
 ·show ACall ..
  refine za (zcj 0) rfl ?_
  show ABr ..
  refine⟨fun hb=>absurd hb (by decide),fun _=>?_⟩
  show ACall ..
  refine .mk _ (zaH l hok) ?_
  rintro H r ⟨rfl,rfl⟩ _ _
  refine⟨.inl rfl,?_⟩
  show AOb ((0:Int)<=0/\(0:Int)<3) _
  refine⟨by decide,?_⟩
  show AOb (l.l0.length+a.length<=zi) _
  refine⟨hm,?_⟩
  show AOb ((0:Int)<=0/\(0:Int)<3) _
  refine⟨by decide,?_⟩
  show ARet ..
  exact⟨[],[],[(l.set_ 0 (l.at_ 0++a)).tv,.int 0],.cons _ _ _ _ (.agg _ _ (.cons _ _ _ _ (.frz _ _ rfl) (.cons _ _ _ _ (.frz _ _ rfl) (.cons _ _ _ _ (.frz _ _ rfl) .nil)))) (.cons _ _ _ _ .same .nil),.nil,rfl,rfl,rfl⟩
 ·show ACall ..
  refine za (zcj 1) rfl ?_
  show ABr ..
  refine⟨fun hb=>absurd hb (by decide),fun _=>?_⟩
  show ACall ..
  refine .mk _ (zaH l hok) ?_
  rintro H r ⟨rfl,rfl⟩ _ _
  refine⟨.inl rfl,?_⟩
  show AOb ((0:Int)<=1/\(1:Int)<3) _
  refine⟨by decide,?_⟩
  show AOb (l.l1.length+a.length<=zi) _
  refine⟨hm,?_⟩
  show AOb ((0:Int)<=1/\(1:Int)<3) _
  refine⟨by decide,?_⟩
  show ARet ..
  exact⟨[],[],[(l.set_ 1 (l.at_ 1++a)).tv,.int 0],.cons _ _ _ _ (.agg _ _ (.cons _ _ _ _ (.frz _ _ rfl) (.cons _ _ _ _ (.frz _ _ rfl) (.cons _ _ _ _ (.frz _ _ rfl) .nil)))) (.cons _ _ _ _ .same .nil),.nil,rfl,rfl,rfl⟩
 ·show ACall ..
  refine za (zcj 2) rfl ?_
  show ABr ..
  refine⟨fun hb=>absurd hb (by decide),fun _=>?_⟩
  show ACall ..
  refine .mk _ (zaH l hok) ?_
  rintro H r ⟨rfl,rfl⟩ _ _
  refine⟨.inl rfl,?_⟩
  show AOb ((0:Int)<=2/\(2:Int)<3) _
  refine⟨by decide,?_⟩
  show AOb (l.l2.length+a.length<=zi) _
  refine⟨hm,?_⟩
  show AOb ((0:Int)<=2/\(2:Int)<3) _
  refine⟨by decide,?_⟩
  show ARet ..
  exact⟨[],[],[(l.set_ 2 (l.at_ 2++a)).tv,.int 0],.cons _ _ _ _ (.agg _ _ (.cons _ _ _ _ (.frz _ _ rfl) (.cons _ _ _ _ (.frz _ _ rfl) (.cons _ _ _ _ (.frz _ _ rfl) .nil)))) (.cons _ _ _ _ .same .nil),.nil,rfl,rfl,rfl⟩
theorem zcE (l:Lists) (c:Int) (h:0<=c/\c<=2) (hok:l.ok) (h0:0<(l.at_ c).length):Spec X 255 [] [l.tv,.int c] (Ret [] (.tup [(l.set_ c ((l.at_ c).take ((l.at_ c).length-1))).tv,.int (at0 (l.at_ c) ((l.at_ c).length-1)),.int 0])):=by
 refine zGO X_ok Tryz.f255 fun _ _=>⟨rfl,?_⟩
 have hc:c=0\/c=1\/c=2:=by omega
 rcases hc with rfl|rfl|rfl
 ·have hm:l.l0.length<=68719476736:=hok.1
  have h0:0<l.l0.length:=h0
  have hw:IntKind.i64.wrap ((l.l0.length:Int)-1)=((l.l0.length-1:Nat):Int):=ziV (by unfold zA;omega) h0
  have e1:(IntKind.i64.wrap ((l.l0.length:Int)-1)).toNat=l.l0.length-1:=by rw[hw];omega
  show ACall ..
  refine za (zcj 0) rfl ?_
  show ABr ..
  refine⟨fun hb=>absurd hb (by decide),fun _=>?_⟩
  show AOb ((0:Int)<=0/\(0:Int)<3) _
  refine⟨by decide,?_⟩
  show ABr (decide ((l.l0.length:Int)=0)) _ _
  refine⟨fun hb=>absurd hb (by rw[decide_eq_true_iff];omega),fun _=>?_⟩
  show ACall ..
  refine .mk _ (zaH l hok) ?_
  rintro H r ⟨rfl,rfl⟩ _ _
  refine⟨.inl rfl,?_⟩
  show AOb ((0:Int)<=0/\(0:Int)<3) _
  refine⟨by decide,?_⟩
  show AOb ((0:Int)<=0/\(0:Int)<3) _
  refine⟨by decide,?_⟩
  show AOb ((0:Int)<=IntKind.i64.wrap ((l.l0.length:Int)-1)/\IntKind.i64.wrap ((l.l0.length:Int)-1)<(l.l0.length:Int)) _
  refine⟨by rw[hw];omega,?_⟩
  show AOb ((IntKind.i64.wrap ((l.l0.length:Int)-1)).toNat<l.l0.length) _
  refine⟨by rw[hw];omega,?_⟩
  show AOb ((0:Int)<=0/\(0:Int)<3) _
  refine⟨by decide,?_⟩
  show AOb ((0:Int)<=IntKind.i64.wrap ((l.l0.length:Int)-1)/\IntKind.i64.wrap ((l.l0.length:Int)-1)<=(l.l0.length:Int)) _
  refine⟨by rw[hw];omega,?_⟩
  show AOb ((0:Int)<=0/\(0:Int)<3) _
  refine⟨by decide,?_⟩
  show ARet ..
  refine⟨[],[],[(l.set_ 0 ((l.at_ 0).take ((l.at_ 0).length-1))).tv,.int (at0 (l.at_ 0) ((l.at_ 0).length-1)),.int 0],.cons _ _ _ _ (.agg _ _ (.cons _ _ _ _ (.frzv (k:=.int) (l:=l.l0) rfl rfl ?_ ?_) (.cons _ _ _ _ (.frz _ _ rfl) (.cons _ _ _ _ (.frz _ _ rfl) .nil)))) (.cons _ _ _ _ (.int_eq ?_) (.cons _ _ _ _ .same .nil)),.nil,rfl,rfl,rfl⟩
  ·show 0+(IntKind.i64.wrap ((l.l0.length:Int)-1)-0).toNat<=l.l0.length
   rw[hw];omega
  ·show(l.l0.drop 0).take (IntKind.i64.wrap ((l.l0.length:Int)-1)-0).toNat=l.l0.take (l.l0.length-1)
   rw[Int.sub_zero,e1,List.drop_zero]
  ·show at0 l.l0 (IntKind.i64.wrap ((l.l0.length:Int)-1)).toNat=at0 l.l0 (l.l0.length-1)
   rw[e1]
 ·have hm:l.l1.length<=68719476736:=hok.2.1
  have h0:0<l.l1.length:=h0
  have hw:IntKind.i64.wrap ((l.l1.length:Int)-1)=((l.l1.length-1:Nat):Int):=ziV (by unfold zA;omega) h0
  have e1:(IntKind.i64.wrap ((l.l1.length:Int)-1)).toNat=l.l1.length-1:=by rw[hw];omega
  show ACall ..
  refine za (zcj 1) rfl ?_
  show ABr ..
  refine⟨fun hb=>absurd hb (by decide),fun _=>?_⟩
  show AOb ((0:Int)<=1/\(1:Int)<3) _
  refine⟨by decide,?_⟩
  show ABr (decide ((l.l1.length:Int)=0)) _ _
  refine⟨fun hb=>absurd hb (by rw[decide_eq_true_iff];omega),fun _=>?_⟩
  show ACall ..
  refine .mk _ (zaH l hok) ?_
  rintro H r ⟨rfl,rfl⟩ _ _
  refine⟨.inl rfl,?_⟩
  show AOb ((0:Int)<=1/\(1:Int)<3) _
  refine⟨by decide,?_⟩
  show AOb ((0:Int)<=1/\(1:Int)<3) _
  refine⟨by decide,?_⟩
  show AOb ((0:Int)<=IntKind.i64.wrap ((l.l1.length:Int)-1)/\IntKind.i64.wrap ((l.l1.length:Int)-1)<(l.l1.length:Int)) _
  refine⟨by rw[hw];omega,?_⟩
  show AOb ((IntKind.i64.wrap ((l.l1.length:Int)-1)).toNat<l.l1.length) _
  refine⟨by rw[hw];omega,?_⟩
  show AOb ((0:Int)<=1/\(1:Int)<3) _
  refine⟨by decide,?_⟩
  show AOb ((0:Int)<=IntKind.i64.wrap ((l.l1.length:Int)-1)/\IntKind.i64.wrap ((l.l1.length:Int)-1)<=(l.l1.length:Int)) _
  refine⟨by rw[hw];omega,?_⟩
  show AOb ((0:Int)<=1/\(1:Int)<3) _
  refine⟨by decide,?_⟩
  show ARet ..
  refine⟨[],[],[(l.set_ 1 ((l.at_ 1).take ((l.at_ 1).length-1))).tv,.int (at0 (l.at_ 1) ((l.at_ 1).length-1)),.int 0],.cons _ _ _ _ (.agg _ _ (.cons _ _ _ _ (.frz _ _ rfl) (.cons _ _ _ _ (.frzv (k:=.int) (l:=l.l1) rfl rfl ?_ ?_) (.cons _ _ _ _ (.frz _ _ rfl) .nil)))) (.cons _ _ _ _ (.int_eq ?_) (.cons _ _ _ _ .same .nil)),.nil,rfl,rfl,rfl⟩
  ·show 0+(IntKind.i64.wrap ((l.l1.length:Int)-1)-0).toNat<=l.l1.length
   rw[hw];omega
  ·show(l.l1.drop 0).take (IntKind.i64.wrap ((l.l1.length:Int)-1)-0).toNat=l.l1.take (l.l1.length-1)
   rw[Int.sub_zero,e1,List.drop_zero]
  ·show at0 l.l1 (IntKind.i64.wrap ((l.l1.length:Int)-1)).toNat=at0 l.l1 (l.l1.length-1)
   rw[e1]
 ·have hm:l.l2.length<=68719476736:=hok.2.2
  have h0:0<l.l2.length:=h0
  have hw:IntKind.i64.wrap ((l.l2.length:Int)-1)=((l.l2.length-1:Nat):Int):=ziV (by unfold zA;omega) h0
  have e1:(IntKind.i64.wrap ((l.l2.length:Int)-1)).toNat=l.l2.length-1:=by rw[hw];omega
  show ACall ..
  refine za (zcj 2) rfl ?_
  show ABr ..
  refine⟨fun hb=>absurd hb (by decide),fun _=>?_⟩
  show AOb ((0:Int)<=2/\(2:Int)<3) _
  refine⟨by decide,?_⟩
  show ABr (decide ((l.l2.length:Int)=0)) _ _
  refine⟨fun hb=>absurd hb (by rw[decide_eq_true_iff];omega),fun _=>?_⟩
  show ACall ..
  refine .mk _ (zaH l hok) ?_
  rintro H r ⟨rfl,rfl⟩ _ _
  refine⟨.inl rfl,?_⟩
  show AOb ((0:Int)<=2/\(2:Int)<3) _
  refine⟨by decide,?_⟩
  show AOb ((0:Int)<=2/\(2:Int)<3) _
  refine⟨by decide,?_⟩
  show AOb ((0:Int)<=IntKind.i64.wrap ((l.l2.length:Int)-1)/\IntKind.i64.wrap ((l.l2.length:Int)-1)<(l.l2.length:Int)) _
  refine⟨by rw[hw];omega,?_⟩
  show AOb ((IntKind.i64.wrap ((l.l2.length:Int)-1)).toNat<l.l2.length) _
  refine⟨by rw[hw];omega,?_⟩
  show AOb ((0:Int)<=2/\(2:Int)<3) _
  refine⟨by decide,?_⟩
  show AOb ((0:Int)<=IntKind.i64.wrap ((l.l2.length:Int)-1)/\IntKind.i64.wrap ((l.l2.length:Int)-1)<=(l.l2.length:Int)) _
  refine⟨by rw[hw];omega,?_⟩
  show AOb ((0:Int)<=2/\(2:Int)<3) _
  refine⟨by decide,?_⟩
  show ARet ..
  refine⟨[],[],[(l.set_ 2 ((l.at_ 2).take ((l.at_ 2).length-1))).tv,.int (at0 (l.at_ 2) ((l.at_ 2).length-1)),.int 0],.cons _ _ _ _ (.agg _ _ (.cons _ _ _ _ (.frz _ _ rfl) (.cons _ _ _ _ (.frz _ _ rfl) (.cons _ _ _ _ (.frzv (k:=.int) (l:=l.l2) rfl rfl ?_ ?_) .nil)))) (.cons _ _ _ _ (.int_eq ?_) (.cons _ _ _ _ .same .nil)),.nil,rfl,rfl,rfl⟩
  ·show 0+(IntKind.i64.wrap ((l.l2.length:Int)-1)-0).toNat<=l.l2.length
   rw[hw];omega
  ·show(l.l2.drop 0).take (IntKind.i64.wrap ((l.l2.length:Int)-1)-0).toNat=l.l2.take (l.l2.length-1)
   rw[Int.sub_zero,e1,List.drop_zero]
  ·show at0 l.l2 (IntKind.i64.wrap ((l.l2.length:Int)-1)).toNat=at0 l.l2 (l.l2.length-1)
   rw[e1]
theorem LeC.frz_eq {ρ:List (Nat×Nat)} {h h' : zh} {x:CV} {k:EK} {l m:List k.T} (h1:zbE (fun b=>(za2 ρ b).isNone) h 8 x=some (.sl k l)) (e:l=m):LeC ρ h h' x (.d (.sl k m)):=by subst e;exact .frz _ _ h1
def leftOf (len:Nat) (n:Int):Nat:=len-n.toNat
theorem zn2 {len:Nat} {n:Int} (hl:len<=68719476736) (h0:0<=n) (h1:n<=9223372036854775807):(if (0:Int)>IntKind.i64.wrap ((len:Int)-n) then (0:Int) else IntKind.i64.wrap ((len:Int)-n))=((leftOf len n:Nat):Int):=by
 rw[zu (by omega) (by omega)]
 unfold leftOf
 split<;>omega
theorem zuW (a:List Int) (k:Nat) (h:k<=a.length):(((zcH a k (a.length-k)).drop k).take (a.length-k))=(a.drop k).reverse/\(zcH a k (a.length-k)).take k=a.take k:=by
 unfold zcH
 have e1:(a.take k).length=k:=by simp;omega
 have e2:(a.drop k).take (a.length-k)=a.drop k:=by rw[List.take_of_length_le];simp
 rw[e2]
 constructor
 ·rw[List.append_assoc,List.drop_left' e1,List.take_left' (by simp)]
 ·rw[List.append_assoc,List.take_left' e1]
theorem zdO (l m:Lists) (c n:Int) (h:0<=c/\c<=2) (h0:0<=n) (h1:n<=9223372036854775807) (hok:l.ok) (hok' : m.ok) (hsum:(l.at_ c).length+(m.at_ c).length<=zi):Spec X 254 [] [l.tv,m.tv,.int c,.int n]
  (Ret [] (.tup [(l.set_ c ((l.at_ c).take (leftOf (l.at_ c).length n))).tv,(m.set_ c (m.at_ c++((l.at_ c).drop (leftOf (l.at_ c).length n)).reverse)).tv,.int 0])):=by
 refine zGO X_ok Tryz.f254 fun _ _=>⟨rfl,?_⟩
 have hc:c=0\/c=1\/c=2:=by omega
 rcases hc with rfl|rfl|rfl
 ·have hm:l.l0.length<=68719476736:=hok.1
  have hE:(if (0:Int)>IntKind.i64.wrap ((l.l0.length:Int)-n) then (0:Int) else IntKind.i64.wrap ((l.l0.length:Int)-n))=((leftOf l.l0.length n:Nat):Int):=zn2 hm h0 h1
  have hlf:leftOf l.l0.length n<=l.l0.length:=by unfold leftOf;omega
  show ACall ..
  refine za (zcj 0) rfl ?_
  show ABr (cond false true (decide (n<0))) _ _
  refine⟨fun hb=>absurd hb (by simp;omega),fun _=>?_⟩
  show ADCall ..
  refine .mk _ _ (zaH l hok) rfl ?_
  show ADCall ..
  refine .mk _ _ (zaH m hok') rfl ?_
  show AOb ((0:Int)<=0/\(0:Int)<3) _
  refine⟨by decide,?_⟩
  show AOb ((0:Int)<=0/\(0:Int)<3) _
  refine⟨by decide,?_⟩
  show AOb ((0:Int)<=(if (0:Int)>IntKind.i64.wrap ((l.l0.length:Int)-n) then (0:Int) else IntKind.i64.wrap ((l.l0.length:Int)-n))/\(if (0:Int)>IntKind.i64.wrap ((l.l0.length:Int)-n) then (0:Int) else IntKind.i64.wrap ((l.l0.length:Int)-n))<=(l.l0.length:Int)) _
  refine⟨by rw[hE];omega,?_⟩
  show ACall ..
  refine .hand [(448,16)] (zcL l.l0) [.c (.view 16 ((if (0:Int)>IntKind.i64.wrap ((l.l0.length:Int)-n) then (0:Int) else IntKind.i64.wrap ((l.l0.length:Int)-n))).toNat ((l.l0.length:Int)-(if (0:Int)>IntKind.i64.wrap ((l.l0.length:Int)-n) then (0:Int) else IntKind.i64.wrap ((l.l0.length:Int)-n))).toNat)] _ (.cons _ _ _ _ (.c _ _ (.view _ _ _ _ rfl)) .nil) (.old 16 448 _ _ _ rfl rfl (.data_eq rfl) .nil) rfl (zdG l.l0 _ _ (by rw[hE];omega)) ?_
  rintro H r ⟨rfl,rfl⟩ _ _
  refine⟨rfl,.inr ⟨rfl,rfl⟩,?_⟩
  have e1:((if (0:Int)>IntKind.i64.wrap ((l.l0.length:Int)-n) then (0:Int) else IntKind.i64.wrap ((l.l0.length:Int)-n))).toNat=leftOf l.l0.length n:=by rw[hE];omega
  have e2:((l.l0.length:Int)-(if (0:Int)>IntKind.i64.wrap ((l.l0.length:Int)-n) then (0:Int) else IntKind.i64.wrap ((l.l0.length:Int)-n))).toNat=l.l0.length-leftOf l.l0.length n:=by rw[hE];omega
  obtain⟨mv1,mv2⟩:=zuW l.l0 _ hlf
  have hrl:=zig l.l0 (leftOf l.l0.length n) (l.l0.length-leftOf l.l0.length n) (by omega)
  show AOb ((0:Int)<=0/\(0:Int)<3) _
  refine⟨by decide,?_⟩
  show AOb (m.l0.length+(((zcH l.l0 ((if (0:Int)>IntKind.i64.wrap ((l.l0.length:Int)-n) then (0:Int) else IntKind.i64.wrap ((l.l0.length:Int)-n))).toNat ((l.l0.length:Int)-(if (0:Int)>IntKind.i64.wrap ((l.l0.length:Int)-n) then (0:Int) else IntKind.i64.wrap ((l.l0.length:Int)-n))).toNat).drop ((if (0:Int)>IntKind.i64.wrap ((l.l0.length:Int)-n) then (0:Int) else IntKind.i64.wrap ((l.l0.length:Int)-n))).toNat).take ((l.l0.length:Int)-(if (0:Int)>IntKind.i64.wrap ((l.l0.length:Int)-n) then (0:Int) else IntKind.i64.wrap ((l.l0.length:Int)-n))).toNat).length<=zi) _
  refine⟨by rw[e1,e2,mv1];simp;have hs:l.l0.length+m.l0.length<=zi:=hsum;omega,?_⟩
  show AOb ((0:Int)<=0/\(0:Int)<3) _
  refine⟨by decide,?_⟩
  show AOb ((0:Int)<=0/\(0:Int)<3) _
  refine⟨by decide,?_⟩
  show AOb ((0:Int)<=(if (0:Int)>IntKind.i64.wrap ((l.l0.length:Int)-n) then (0:Int) else IntKind.i64.wrap ((l.l0.length:Int)-n))/\(if (0:Int)>IntKind.i64.wrap ((l.l0.length:Int)-n) then (0:Int) else IntKind.i64.wrap ((l.l0.length:Int)-n))<=((zcH l.l0 ((if (0:Int)>IntKind.i64.wrap ((l.l0.length:Int)-n) then (0:Int) else IntKind.i64.wrap ((l.l0.length:Int)-n))).toNat ((l.l0.length:Int)-(if (0:Int)>IntKind.i64.wrap ((l.l0.length:Int)-n) then (0:Int) else IntKind.i64.wrap ((l.l0.length:Int)-n))).toNat).length:Int)) _
  refine⟨by rw[e1,e2,hrl,hE];omega,?_⟩
  show AOb ((0:Int)<=0/\(0:Int)<3) _
  refine⟨by decide,?_⟩
  show ARet ..
  refine⟨[],[],[(l.set_ 0 ((l.at_ 0).take (leftOf (l.at_ 0).length n))).tv,(m.set_ 0 (m.at_ 0++((l.at_ 0).drop (leftOf (l.at_ 0).length n)).reverse)).tv,.int 0],.cons _ _ _ _ (.agg _ _ (.cons _ _ _ _ (.frzv (k:=.int) (l:=zcH l.l0 ((if (0:Int)>IntKind.i64.wrap ((l.l0.length:Int)-n) then (0:Int) else IntKind.i64.wrap ((l.l0.length:Int)-n))).toNat ((l.l0.length:Int)-(if (0:Int)>IntKind.i64.wrap ((l.l0.length:Int)-n) then (0:Int) else IntKind.i64.wrap ((l.l0.length:Int)-n))).toNat) rfl rfl ?_ ?_) (.cons _ _ _ _ (.frz _ _ rfl) (.cons _ _ _ _ (.frz _ _ rfl) .nil)))) (.cons _ _ _ _ (.agg _ _ (.cons _ _ _ _ (.frz_eq rfl ?_) (.cons _ _ _ _ (.frz _ _ rfl) (.cons _ _ _ _ (.frz _ _ rfl) .nil)))) (.cons _ _ _ _ .same .nil)),.nil,rfl,rfl,rfl⟩
  ·show 0+((if (0:Int)>IntKind.i64.wrap ((l.l0.length:Int)-n) then (0:Int) else IntKind.i64.wrap ((l.l0.length:Int)-n))-0).toNat<=(zcH l.l0 ((if (0:Int)>IntKind.i64.wrap ((l.l0.length:Int)-n) then (0:Int) else IntKind.i64.wrap ((l.l0.length:Int)-n))).toNat ((l.l0.length:Int)-(if (0:Int)>IntKind.i64.wrap ((l.l0.length:Int)-n) then (0:Int) else IntKind.i64.wrap ((l.l0.length:Int)-n))).toNat).length
   rw[e1,e2,hrl,hE];omega
  ·show((zcH l.l0 ((if (0:Int)>IntKind.i64.wrap ((l.l0.length:Int)-n) then (0:Int) else IntKind.i64.wrap ((l.l0.length:Int)-n))).toNat ((l.l0.length:Int)-(if (0:Int)>IntKind.i64.wrap ((l.l0.length:Int)-n) then (0:Int) else IntKind.i64.wrap ((l.l0.length:Int)-n))).toNat).drop 0).take ((if (0:Int)>IntKind.i64.wrap ((l.l0.length:Int)-n) then (0:Int) else IntKind.i64.wrap ((l.l0.length:Int)-n))-0).toNat=l.l0.take (leftOf l.l0.length n)
   rw[Int.sub_zero,e1,e2,List.drop_zero,mv2]
  ·show m.l0++((zcH l.l0 ((if (0:Int)>IntKind.i64.wrap ((l.l0.length:Int)-n) then (0:Int) else IntKind.i64.wrap ((l.l0.length:Int)-n))).toNat ((l.l0.length:Int)-(if (0:Int)>IntKind.i64.wrap ((l.l0.length:Int)-n) then (0:Int) else IntKind.i64.wrap ((l.l0.length:Int)-n))).toNat).drop ((if (0:Int)>IntKind.i64.wrap ((l.l0.length:Int)-n) then (0:Int) else IntKind.i64.wrap ((l.l0.length:Int)-n))).toNat).take ((l.l0.length:Int)-(if (0:Int)>IntKind.i64.wrap ((l.l0.length:Int)-n) then (0:Int) else IntKind.i64.wrap ((l.l0.length:Int)-n))).toNat=_
   rw[e1,e2,mv1]
   rfl
 ·have hm:l.l1.length<=68719476736:=hok.2.1
  have hE:(if (0:Int)>IntKind.i64.wrap ((l.l1.length:Int)-n) then (0:Int) else IntKind.i64.wrap ((l.l1.length:Int)-n))=((leftOf l.l1.length n:Nat):Int):=zn2 hm h0 h1
  have hlf:leftOf l.l1.length n<=l.l1.length:=by unfold leftOf;omega
  show ACall ..
  refine za (zcj 1) rfl ?_
  show ABr (cond false true (decide (n<0))) _ _
  refine⟨fun hb=>absurd hb (by simp;omega),fun _=>?_⟩
  show ADCall ..
  refine .mk _ _ (zaH l hok) rfl ?_
  show ADCall ..
  refine .mk _ _ (zaH m hok') rfl ?_
  show AOb ((0:Int)<=1/\(1:Int)<3) _
  refine⟨by decide,?_⟩
  show AOb ((0:Int)<=1/\(1:Int)<3) _
  refine⟨by decide,?_⟩
  show AOb ((0:Int)<=(if (0:Int)>IntKind.i64.wrap ((l.l1.length:Int)-n) then (0:Int) else IntKind.i64.wrap ((l.l1.length:Int)-n))/\(if (0:Int)>IntKind.i64.wrap ((l.l1.length:Int)-n) then (0:Int) else IntKind.i64.wrap ((l.l1.length:Int)-n))<=(l.l1.length:Int)) _
  refine⟨by rw[hE];omega,?_⟩
  show ACall ..
  refine .hand [(449,16)] (zcL l.l1) [.c (.view 16 ((if (0:Int)>IntKind.i64.wrap ((l.l1.length:Int)-n) then (0:Int) else IntKind.i64.wrap ((l.l1.length:Int)-n))).toNat ((l.l1.length:Int)-(if (0:Int)>IntKind.i64.wrap ((l.l1.length:Int)-n) then (0:Int) else IntKind.i64.wrap ((l.l1.length:Int)-n))).toNat)] _ (.cons _ _ _ _ (.c _ _ (.view _ _ _ _ rfl)) .nil) (.old 16 449 _ _ _ rfl rfl (.data_eq rfl) .nil) rfl (zdG l.l1 _ _ (by rw[hE];omega)) ?_
  rintro H r ⟨rfl,rfl⟩ _ _
  refine⟨rfl,.inr ⟨rfl,rfl⟩,?_⟩
  have e1:((if (0:Int)>IntKind.i64.wrap ((l.l1.length:Int)-n) then (0:Int) else IntKind.i64.wrap ((l.l1.length:Int)-n))).toNat=leftOf l.l1.length n:=by rw[hE];omega
  have e2:((l.l1.length:Int)-(if (0:Int)>IntKind.i64.wrap ((l.l1.length:Int)-n) then (0:Int) else IntKind.i64.wrap ((l.l1.length:Int)-n))).toNat=l.l1.length-leftOf l.l1.length n:=by rw[hE];omega
  obtain⟨mv1,mv2⟩:=zuW l.l1 _ hlf
  have hrl:=zig l.l1 (leftOf l.l1.length n) (l.l1.length-leftOf l.l1.length n) (by omega)
  show AOb ((0:Int)<=1/\(1:Int)<3) _
  refine⟨by decide,?_⟩
  show AOb (m.l1.length+(((zcH l.l1 ((if (0:Int)>IntKind.i64.wrap ((l.l1.length:Int)-n) then (0:Int) else IntKind.i64.wrap ((l.l1.length:Int)-n))).toNat ((l.l1.length:Int)-(if (0:Int)>IntKind.i64.wrap ((l.l1.length:Int)-n) then (0:Int) else IntKind.i64.wrap ((l.l1.length:Int)-n))).toNat).drop ((if (0:Int)>IntKind.i64.wrap ((l.l1.length:Int)-n) then (0:Int) else IntKind.i64.wrap ((l.l1.length:Int)-n))).toNat).take ((l.l1.length:Int)-(if (0:Int)>IntKind.i64.wrap ((l.l1.length:Int)-n) then (0:Int) else IntKind.i64.wrap ((l.l1.length:Int)-n))).toNat).length<=zi) _
  refine⟨by rw[e1,e2,mv1];simp;have hs:l.l1.length+m.l1.length<=zi:=hsum;omega,?_⟩
  show AOb ((0:Int)<=1/\(1:Int)<3) _
  refine⟨by decide,?_⟩
  show AOb ((0:Int)<=1/\(1:Int)<3) _
  refine⟨by decide,?_⟩
  show AOb ((0:Int)<=(if (0:Int)>IntKind.i64.wrap ((l.l1.length:Int)-n) then (0:Int) else IntKind.i64.wrap ((l.l1.length:Int)-n))/\(if (0:Int)>IntKind.i64.wrap ((l.l1.length:Int)-n) then (0:Int) else IntKind.i64.wrap ((l.l1.length:Int)-n))<=((zcH l.l1 ((if (0:Int)>IntKind.i64.wrap ((l.l1.length:Int)-n) then (0:Int) else IntKind.i64.wrap ((l.l1.length:Int)-n))).toNat ((l.l1.length:Int)-(if (0:Int)>IntKind.i64.wrap ((l.l1.length:Int)-n) then (0:Int) else IntKind.i64.wrap ((l.l1.length:Int)-n))).toNat).length:Int)) _
  refine⟨by rw[e1,e2,hrl,hE];omega,?_⟩
  show AOb ((0:Int)<=1/\(1:Int)<3) _
  refine⟨by decide,?_⟩
  show ARet ..
  refine⟨[],[],[(l.set_ 1 ((l.at_ 1).take (leftOf (l.at_ 1).length n))).tv,(m.set_ 1 (m.at_ 1++((l.at_ 1).drop (leftOf (l.at_ 1).length n)).reverse)).tv,.int 0],.cons _ _ _ _ (.agg _ _ (.cons _ _ _ _ (.frz _ _ rfl) (.cons _ _ _ _ (.frzv (k:=.int) (l:=zcH l.l1 ((if (0:Int)>IntKind.i64.wrap ((l.l1.length:Int)-n) then (0:Int) else IntKind.i64.wrap ((l.l1.length:Int)-n))).toNat ((l.l1.length:Int)-(if (0:Int)>IntKind.i64.wrap ((l.l1.length:Int)-n) then (0:Int) else IntKind.i64.wrap ((l.l1.length:Int)-n))).toNat) rfl rfl ?_ ?_) (.cons _ _ _ _ (.frz _ _ rfl) .nil)))) (.cons _ _ _ _ (.agg _ _ (.cons _ _ _ _ (.frz _ _ rfl) (.cons _ _ _ _ (.frz_eq rfl ?_) (.cons _ _ _ _ (.frz _ _ rfl) .nil)))) (.cons _ _ _ _ .same .nil)),.nil,rfl,rfl,rfl⟩
  ·show 0+((if (0:Int)>IntKind.i64.wrap ((l.l1.length:Int)-n) then (0:Int) else IntKind.i64.wrap ((l.l1.length:Int)-n))-0).toNat<=(zcH l.l1 ((if (0:Int)>IntKind.i64.wrap ((l.l1.length:Int)-n) then (0:Int) else IntKind.i64.wrap ((l.l1.length:Int)-n))).toNat ((l.l1.length:Int)-(if (0:Int)>IntKind.i64.wrap ((l.l1.length:Int)-n) then (0:Int) else IntKind.i64.wrap ((l.l1.length:Int)-n))).toNat).length
   rw[e1,e2,hrl,hE];omega
  ·show((zcH l.l1 ((if (0:Int)>IntKind.i64.wrap ((l.l1.length:Int)-n) then (0:Int) else IntKind.i64.wrap ((l.l1.length:Int)-n))).toNat ((l.l1.length:Int)-(if (0:Int)>IntKind.i64.wrap ((l.l1.length:Int)-n) then (0:Int) else IntKind.i64.wrap ((l.l1.length:Int)-n))).toNat).drop 0).take ((if (0:Int)>IntKind.i64.wrap ((l.l1.length:Int)-n) then (0:Int) else IntKind.i64.wrap ((l.l1.length:Int)-n))-0).toNat=l.l1.take (leftOf l.l1.length n)
   rw[Int.sub_zero,e1,e2,List.drop_zero,mv2]
  ·show m.l1++((zcH l.l1 ((if (0:Int)>IntKind.i64.wrap ((l.l1.length:Int)-n) then (0:Int) else IntKind.i64.wrap ((l.l1.length:Int)-n))).toNat ((l.l1.length:Int)-(if (0:Int)>IntKind.i64.wrap ((l.l1.length:Int)-n) then (0:Int) else IntKind.i64.wrap ((l.l1.length:Int)-n))).toNat).drop ((if (0:Int)>IntKind.i64.wrap ((l.l1.length:Int)-n) then (0:Int) else IntKind.i64.wrap ((l.l1.length:Int)-n))).toNat).take ((l.l1.length:Int)-(if (0:Int)>IntKind.i64.wrap ((l.l1.length:Int)-n) then (0:Int) else IntKind.i64.wrap ((l.l1.length:Int)-n))).toNat=_
   rw[e1,e2,mv1]
   rfl
 ·have hm:l.l2.length<=68719476736:=hok.2.2
  have hE:(if (0:Int)>IntKind.i64.wrap ((l.l2.length:Int)-n) then (0:Int) else IntKind.i64.wrap ((l.l2.length:Int)-n))=((leftOf l.l2.length n:Nat):Int):=zn2 hm h0 h1
  have hlf:leftOf l.l2.length n<=l.l2.length:=by unfold leftOf;omega
  show ACall ..
  refine za (zcj 2) rfl ?_
  show ABr (cond false true (decide (n<0))) _ _
  refine⟨fun hb=>absurd hb (by simp;omega),fun _=>?_⟩
  show ADCall ..
  refine .mk _ _ (zaH l hok) rfl ?_
  show ADCall ..
  refine .mk _ _ (zaH m hok') rfl ?_
  show AOb ((0:Int)<=2/\(2:Int)<3) _
  refine⟨by decide,?_⟩
  show AOb ((0:Int)<=2/\(2:Int)<3) _
  refine⟨by decide,?_⟩
  show AOb ((0:Int)<=(if (0:Int)>IntKind.i64.wrap ((l.l2.length:Int)-n) then (0:Int) else IntKind.i64.wrap ((l.l2.length:Int)-n))/\(if (0:Int)>IntKind.i64.wrap ((l.l2.length:Int)-n) then (0:Int) else IntKind.i64.wrap ((l.l2.length:Int)-n))<=(l.l2.length:Int)) _
  refine⟨by rw[hE];omega,?_⟩
  show ACall ..
  refine .hand [(450,16)] (zcL l.l2) [.c (.view 16 ((if (0:Int)>IntKind.i64.wrap ((l.l2.length:Int)-n) then (0:Int) else IntKind.i64.wrap ((l.l2.length:Int)-n))).toNat ((l.l2.length:Int)-(if (0:Int)>IntKind.i64.wrap ((l.l2.length:Int)-n) then (0:Int) else IntKind.i64.wrap ((l.l2.length:Int)-n))).toNat)] _ (.cons _ _ _ _ (.c _ _ (.view _ _ _ _ rfl)) .nil) (.old 16 450 _ _ _ rfl rfl (.data_eq rfl) .nil) rfl (zdG l.l2 _ _ (by rw[hE];omega)) ?_
  rintro H r ⟨rfl,rfl⟩ _ _
  refine⟨rfl,.inr ⟨rfl,rfl⟩,?_⟩
  have e1:((if (0:Int)>IntKind.i64.wrap ((l.l2.length:Int)-n) then (0:Int) else IntKind.i64.wrap ((l.l2.length:Int)-n))).toNat=leftOf l.l2.length n:=by rw[hE];omega
  have e2:((l.l2.length:Int)-(if (0:Int)>IntKind.i64.wrap ((l.l2.length:Int)-n) then (0:Int) else IntKind.i64.wrap ((l.l2.length:Int)-n))).toNat=l.l2.length-leftOf l.l2.length n:=by rw[hE];omega
  obtain⟨mv1,mv2⟩:=zuW l.l2 _ hlf
  have hrl:=zig l.l2 (leftOf l.l2.length n) (l.l2.length-leftOf l.l2.length n) (by omega)
  show AOb ((0:Int)<=2/\(2:Int)<3) _
  refine⟨by decide,?_⟩
  show AOb (m.l2.length+(((zcH l.l2 ((if (0:Int)>IntKind.i64.wrap ((l.l2.length:Int)-n) then (0:Int) else IntKind.i64.wrap ((l.l2.length:Int)-n))).toNat ((l.l2.length:Int)-(if (0:Int)>IntKind.i64.wrap ((l.l2.length:Int)-n) then (0:Int) else IntKind.i64.wrap ((l.l2.length:Int)-n))).toNat).drop ((if (0:Int)>IntKind.i64.wrap ((l.l2.length:Int)-n) then (0:Int) else IntKind.i64.wrap ((l.l2.length:Int)-n))).toNat).take ((l.l2.length:Int)-(if (0:Int)>IntKind.i64.wrap ((l.l2.length:Int)-n) then (0:Int) else IntKind.i64.wrap ((l.l2.length:Int)-n))).toNat).length<=zi) _
  refine⟨by rw[e1,e2,mv1];simp;have hs:l.l2.length+m.l2.length<=zi:=hsum;omega,?_⟩
  show AOb ((0:Int)<=2/\(2:Int)<3) _
  refine⟨by decide,?_⟩
  show AOb ((0:Int)<=2/\(2:Int)<3) _
  refine⟨by decide,?_⟩
  show AOb ((0:Int)<=(if (0:Int)>IntKind.i64.wrap ((l.l2.length:Int)-n) then (0:Int) else IntKind.i64.wrap ((l.l2.length:Int)-n))/\(if (0:Int)>IntKind.i64.wrap ((l.l2.length:Int)-n) then (0:Int) else IntKind.i64.wrap ((l.l2.length:Int)-n))<=((zcH l.l2 ((if (0:Int)>IntKind.i64.wrap ((l.l2.length:Int)-n) then (0:Int) else IntKind.i64.wrap ((l.l2.length:Int)-n))).toNat ((l.l2.length:Int)-(if (0:Int)>IntKind.i64.wrap ((l.l2.length:Int)-n) then (0:Int) else IntKind.i64.wrap ((l.l2.length:Int)-n))).toNat).length:Int)) _
  refine⟨by rw[e1,e2,hrl,hE];omega,?_⟩
  show AOb ((0:Int)<=2/\(2:Int)<3) _
  refine⟨by decide,?_⟩
  show ARet ..
  refine⟨[],[],[(l.set_ 2 ((l.at_ 2).take (leftOf (l.at_ 2).length n))).tv,(m.set_ 2 (m.at_ 2++((l.at_ 2).drop (leftOf (l.at_ 2).length n)).reverse)).tv,.int 0],.cons _ _ _ _ (.agg _ _ (.cons _ _ _ _ (.frz _ _ rfl) (.cons _ _ _ _ (.frz _ _ rfl) (.cons _ _ _ _ (.frzv (k:=.int) (l:=zcH l.l2 ((if (0:Int)>IntKind.i64.wrap ((l.l2.length:Int)-n) then (0:Int) else IntKind.i64.wrap ((l.l2.length:Int)-n))).toNat ((l.l2.length:Int)-(if (0:Int)>IntKind.i64.wrap ((l.l2.length:Int)-n) then (0:Int) else IntKind.i64.wrap ((l.l2.length:Int)-n))).toNat) rfl rfl ?_ ?_) .nil)))) (.cons _ _ _ _ (.agg _ _ (.cons _ _ _ _ (.frz _ _ rfl) (.cons _ _ _ _ (.frz _ _ rfl) (.cons _ _ _ _ (.frz_eq rfl ?_) .nil)))) (.cons _ _ _ _ .same .nil)),.nil,rfl,rfl,rfl⟩
  ·show 0+((if (0:Int)>IntKind.i64.wrap ((l.l2.length:Int)-n) then (0:Int) else IntKind.i64.wrap ((l.l2.length:Int)-n))-0).toNat<=(zcH l.l2 ((if (0:Int)>IntKind.i64.wrap ((l.l2.length:Int)-n) then (0:Int) else IntKind.i64.wrap ((l.l2.length:Int)-n))).toNat ((l.l2.length:Int)-(if (0:Int)>IntKind.i64.wrap ((l.l2.length:Int)-n) then (0:Int) else IntKind.i64.wrap ((l.l2.length:Int)-n))).toNat).length
   rw[e1,e2,hrl,hE];omega
  ·show((zcH l.l2 ((if (0:Int)>IntKind.i64.wrap ((l.l2.length:Int)-n) then (0:Int) else IntKind.i64.wrap ((l.l2.length:Int)-n))).toNat ((l.l2.length:Int)-(if (0:Int)>IntKind.i64.wrap ((l.l2.length:Int)-n) then (0:Int) else IntKind.i64.wrap ((l.l2.length:Int)-n))).toNat).drop 0).take ((if (0:Int)>IntKind.i64.wrap ((l.l2.length:Int)-n) then (0:Int) else IntKind.i64.wrap ((l.l2.length:Int)-n))-0).toNat=l.l2.take (leftOf l.l2.length n)
   rw[Int.sub_zero,e1,e2,List.drop_zero,mv2]
  ·show m.l2++((zcH l.l2 ((if (0:Int)>IntKind.i64.wrap ((l.l2.length:Int)-n) then (0:Int) else IntKind.i64.wrap ((l.l2.length:Int)-n))).toNat ((l.l2.length:Int)-(if (0:Int)>IntKind.i64.wrap ((l.l2.length:Int)-n) then (0:Int) else IntKind.i64.wrap ((l.l2.length:Int)-n))).toNat).drop ((if (0:Int)>IntKind.i64.wrap ((l.l2.length:Int)-n) then (0:Int) else IntKind.i64.wrap ((l.l2.length:Int)-n))).toNat).take ((l.l2.length:Int)-(if (0:Int)>IntKind.i64.wrap ((l.l2.length:Int)-n) then (0:Int) else IntKind.i64.wrap ((l.l2.length:Int)-n))).toNat=_
   rw[e1,e2,mv1]
   rfl
def Lists.flat (l:Lists):List Int:=l.l0++l.l1++l.l2
def flats (L:List Lists):List Int:=L.flatMap Lists.flat
theorem zhZ (L:List Lists) (i:Nat) (h:i<L.length):flats (L.take (i+1))=flats (L.take i)++(L.getD i default).flat:=by
 unfold flats
 rw[List.take_add_one,List.getElem?_eq_getElem h,List.flatMap_append,List.getD_eq_getElem?_getD,List.getElem?_eq_getElem h]
 simp
theorem zlA (L:List Lists) (i:Nat):(flats (L.take i)).length<=(flats L).length:=by
 have:flats L=flats (L.take i)++flats (L.drop i):=by
  unfold flats
  rw[←List.flatMap_append,List.take_append_drop]
 rw[this,List.length_append]
 omega
theorem zoS (L:List Lists) (h:(flats L).length<=zi):Spec X 105 [] [.c (.d (.sl .lists L))] (Ret [(0,.data .int (flats L))] (.c (.own 0))):=by
 refine zGO X_ok Tryz.f105 fun hb _=>⟨rfl,?_⟩
 have hmax:L.length<=zA:=(hb (.c (.d (.sl .lists L))) (by simp)).1
 show ∃n,_
 refine⟨0,ALoop.inv (ι:={i:Nat // i<=L.length}) (fun i=>⟨[(3,.c (.own 1)),(6,.c (.d (.sl .lists L))),(7,.int L.length),(8,.int i.1)],[(1,.data .int (flats (L.take i.1)))],32⟩) (fun i=>L.length-i.1) ⟨0,Nat.zero_le _⟩ ?_ ?_⟩
 ·exact⟨[],.cons _ _ _ (.c _ _ (.nilown 1 .int rfl rfl)) (.cons _ _ _ .same (.cons _ _ _ .same (.cons _ _ _ .same .nil))),.new 1 .int _ rfl .nil,rfl⟩
 ·rintro⟨i,hi⟩
  show ABr (decide ((i:Int)<(L.length:Int))) _ _
  refine⟨fun h2=>?_,fun h2=>?_⟩
  ·have hlt:i<L.length:=by simpa using h2
   have hstep:=zhZ L i hlt
   have hle:=zlA L (i+1)
   have hlen:(flats (L.take (i+1))).length=(flats (L.take i)).length+(L.getD i default).flat.length:=by rw[hstep,List.length_append]
   have hfl:(L.getD i default).flat.length=(L.getD i default).l0.length+(L.getD i default).l1.length+(L.getD i default).l2.length:=by simp[Lists.flat];omega
   show AOb ((0:Int)<=(i:Int)/\(i:Int)<(L.length:Int)) _
   refine⟨by omega,?_⟩
   show ACall ..
   refine .mk _ (zn8 (L.getD i default).l0 (L.getD i default).l1 (L.getD i default).l2 (by omega)) ?_
   rintro H r ⟨rfl,rfl⟩ _ _
   refine⟨.inr ⟨rfl,rfl⟩,?_⟩
   show AOb ((flats (L.take i)).length+(L.getD i default).flat.length<=zi) _
   refine⟨by omega,?_⟩
   show ARound ..
   exact⟨⟨i+1,hlt⟩,Nat.sub_lt_sub_left hlt (Nat.lt_succ_self i),[(_,1)],.cons _ _ _ (.c _ _ (.own1 _ _)) (.cons _ _ _ .same (.cons _ _ _ .same (.cons _ _ _ (.int_eq (zP (i:=i) (by omega))) .nil))),.old 1 _ _ _ _ rfl rfl (.data_eq hstep.symm) .nil,rfl⟩
  ·have hge:i=L.length:=by simp at h2;omega
   show ARet ..
   refine⟨[(_,0)],[(0,.data .int (flats L))],[.c (.own 0)],.cons _ _ _ _ (.c _ _ (.own1 _ _)) .nil,.old 0 _ _ _ _ rfl rfl (.data_eq ?_) .nil,rfl,rfl,rfl⟩
   show flats (L.take i)=flats L
   rw[hge,List.take_length]
theorem zch {l:List Int} {i:Nat} (h:i<l.length):at0 l i=l[i]:=by
 unfold at0
 rw[List.getD_eq_getElem?_getD,List.getElem?_eq_getElem h]
 rfl
theorem zul {l:List Int} (hs:zjD l 0 l.length):zuH l l.length↔l.Nodup:=by
 unfold List.Nodup
 rw[List.pairwise_iff_getElem]
 constructor
 ·intro h i j hi hj hij
  have h1:=h i (by omega)
  have h2:=hs i (i+1) (Nat.zero_le _) (by omega) (by omega)
  have h3:at0 l (i+1)<=at0 l j:=by
   by_cases e:i+1=j
   ·subst e;exact Int.le_refl _
   ·exact hs (i+1) j (Nat.zero_le _) (by omega) hj
  rw[←zch hi,←zch hj]
  omega
 ·intro h i hi
  rw[zch (by omega),zch hi]
  exact h i (i+1) (by omega) hi (by omega)
theorem zwe (L:List Lists) (h:(flats L).length<=zi) (hs:Spec X 90 (zcL (flats L)) [.c (.own 16)] (zlD (flats L) 0 (flats L).length)):Spec X 60 [] [.c (.d (.sl .lists L))] (Ret [] (.bo (decide (flats L).Nodup))):=by
 refine zGO X_ok Tryz.f60 fun hb _=>⟨rfl,?_⟩
 show ACall ..
 refine .mk _ (zoS L h) ?_
 rintro H r ⟨rfl,rfl⟩ _ _
 refine⟨.inl rfl,?_⟩
 show ACall ..
 refine .hand [(_,16)] (zcL (flats L)) [.c (.own 16)] _ (.cons _ _ _ _ (.c _ _ (.own1 _ _)) .nil) (.old 16 _ _ _ _ rfl rfl (.data_eq rfl) .nil) rfl hs ?_
 rintro H r ⟨rfl,l',rfl,hsr,hso⟩ _ _
 refine⟨rfl,.inr ⟨rfl,rfl⟩,?_⟩
 show ACall ..
 refine .hand [(_,16)] (zcL l') [.c (.own 16)] _ (.cons _ _ _ _ (.c _ _ (.own1 _ _)) .nil) (.old 16 _ _ _ _ rfl rfl (.data_eq rfl) .nil) rfl (zn5 l') ?_
 rintro H r ⟨m,n,rfl,rfl,hnm,hml,hiff⟩ _ _
 refine⟨rfl,.inr ⟨rfl,rfl⟩,?_⟩
 show ARet ..
 refine zo (x:=decide ((n:Int)=((flats L).length:Int))) ?_ ⟨rfl,rfl⟩
 have hl:l'.length=(flats L).length:=hsr.len
 rw[←hl]at hso
 have key:n=l'.length↔(flats L).Nodup:=hiff.trans ((zul hso).trans hsr.perm.nodup_iff)
 rw[decide_eq_decide,←key]
 omega
theorem zrG (L:List Lists) (h:(flats L).length<=zi):Spec X 60 [] [.c (.d (.sl .lists L))] (Ret [] (.bo (decide (flats L).Nodup))):=
 zwe L h (ztE (flats L))
theorem zgL (l:List Int) (k:Nat) (h:k<l.length):l.take (k+1)=l.take k++[at0 l k]:=by
 rw[List.take_add_one,List.getElem?_eq_getElem h]
 unfold at0
 rw[List.getD_eq_getElem?_getD,List.getElem?_eq_getElem h]
 rfl
set_option maxHeartbeats 1000000 in
theorem ztO (L:List Lists) (h:(flats L).length<=zi):Spec X 170 [] [.c (.d (.sl .lists L))] (Ret [(0,.data .int (flats L))] (.c (.own 0))):=by
 refine zGO X_ok Tryz.f170 fun hb _=>⟨rfl,?_⟩
 have hmax:L.length<=zA:=(hb (.c (.d (.sl .lists L))) (by simp)).1
 have hmost:zi<=zA:=by decide
 show ∃n,_
 refine⟨0,ALoop.inv (ι:={i:Nat // i<=L.length}) (fun i=>⟨[(0,.c (.d (.sl .lists L))),(3,.c (.own 1)),(4,.int i.1)],[(1,.data .int (flats (L.take i.1)))],64⟩) (fun i=>L.length-i.1) ⟨0,Nat.zero_le _⟩ ?_ ?_⟩
 ·exact⟨[],.cons _ _ _ .same (.cons _ _ _ (.c _ _ (.nilown 1 .int rfl rfl)) (.cons _ _ _ .same .nil)),.new 1 .int _ rfl .nil,rfl⟩
 ·rintro⟨i,hi⟩
  show ABr (decide ((i:Int)<(L.length:Int))) _ _
  refine⟨fun h2=>?_,fun h2=>?_⟩
  ·have hlt:i<L.length:=by simpa using h2
   have hstep:=zhZ L i hlt
   have hle:=zlA L (i+1)
   have hlen:(flats (L.take (i+1))).length=(flats (L.take i)).length+(L.getD i default).flat.length:=by rw[hstep,List.length_append]
   have hfl:(L.getD i default).flat.length=(L.getD i default).l0.length+(L.getD i default).l1.length+(L.getD i default).l2.length:=by simp[Lists.flat];omega
   generalize hG:flats (L.take i)=G at *
   have hwi:=zP (i:=i) (by omega)
   show ∃n,_
   refine⟨4,.next ?_⟩
   show ABr ..
   refine⟨fun _=>?_,fun hx=>absurd hx (by decide)⟩
   show ∃n,_
   refine⟨0,ALoop.inv (ι:={k:Nat // k<=(L.getD i default).l0.length}) (fun k=>⟨[(0,.c (.d (.sl .lists L))),(3,.c (.own 1)),(4,.int i),(5,.int 0),(6,.int k.1)],[(1,.data .int (G++(L.getD i default).l0.take k.1))],64⟩) (fun k=>(L.getD i default).l0.length-k.1) ⟨0,Nat.zero_le _⟩ ?_ ?_⟩
   ·exact⟨[(1,1)],.cons _ _ _ .same (.cons _ _ _ (.c _ _ (.own _ _ rfl)) (.cons _ _ _ .same (.cons _ _ _ .same (.cons _ _ _ .same .nil)))),.old 1 1 _ _ _ rfl rfl (.data_eq (by rw[List.take_zero,List.append_nil])) .nil,rfl⟩
   ·rintro⟨k,hk⟩
    have hk:k<=(L.getD i default).l0.length:=hk
    show AOb ((0:Int)<=(i:Int)/\(i:Int)<(L.length:Int)) _
    refine⟨by omega,?_⟩
    show AOb ..
    refine⟨by decide,?_⟩
    show ABr (decide ((k:Int)<((L.getD i default).l0.length:Int))) _ _
    refine⟨fun h3=>?_,fun h3=>?_⟩
    ·have hkl:k<(L.getD i default).l0.length:=Int.ofNat_lt.1 (of_decide_eq_true h3)
     show AOb ((0:Int)<=(i:Int)/\(i:Int)<(L.length:Int)) _
     refine⟨by omega,?_⟩
     show AOb ..
     refine⟨by decide,?_⟩
     show AOb ((0:Int)<=(k:Int)/\(k:Int)<((L.getD i default).l0.length:Int)) _
     refine⟨by omega,?_⟩
     show AOb ((G++(L.getD i default).l0.take k).length+1<=zi) _
     refine⟨by simp only[List.length_append,List.length_take];omega,?_⟩
     have e9:(G++(L.getD i default).l0.take k)++[at0 (L.getD i default).l0 k]=G++(L.getD i default).l0.take (k+1):=by rw[zgL _ _ hkl,List.append_assoc]
     show ARound ..
     exact⟨⟨k+1,hkl⟩,Nat.sub_lt_sub_left hkl (Nat.lt_succ_self k),[(_,1)],.cons _ _ _ .same (.cons _ _ _ (.c _ _ (.own1 _ _)) (.cons _ _ _ .same (.cons _ _ _ .same (.cons _ _ _ (.int_eq (zP (i:=k) (by omega))) .nil)))),.old 1 _ _ _ _ rfl rfl (.data_eq e9) .nil,rfl⟩
    ·have hke:k=(L.getD i default).l0.length:=by have:=of_decide_eq_false h3;omega
     subst hke
     have t0:G++(L.getD i default).l0.take (L.getD i default).l0.length=G++(L.getD i default).l0:=by rw[List.take_length]
     show ALoop ..
     refine .next ?_
     show ABr ..
     refine⟨fun _=>?_,fun hx=>absurd hx (by decide)⟩
     show ∃n,_
     refine⟨0,ALoop.inv (ι:={k:Nat // k<=(L.getD i default).l1.length}) (fun k=>⟨[(0,.c (.d (.sl .lists L))),(3,.c (.own 1)),(4,.int i),(5,.int 1),(6,.int k.1)],[(1,.data .int (G++(L.getD i default).l0++(L.getD i default).l1.take k.1))],64⟩) (fun k=>(L.getD i default).l1.length-k.1) ⟨0,Nat.zero_le _⟩ ?_ ?_⟩
     ·exact⟨[(1,1)],.cons _ _ _ .same (.cons _ _ _ (.c _ _ (.own _ _ rfl)) (.cons _ _ _ .same (.cons _ _ _ .same (.cons _ _ _ .same .nil)))),.old 1 1 _ _ _ rfl rfl (.data_eq (t0.trans (by rw[List.take_zero,List.append_nil]))) .nil,rfl⟩
     ·rintro⟨k,hk⟩
      have hk:k<=(L.getD i default).l1.length:=hk
      show AOb ((0:Int)<=(i:Int)/\(i:Int)<(L.length:Int)) _
      refine⟨by omega,?_⟩
      show AOb ..
      refine⟨by decide,?_⟩
      show ABr (decide ((k:Int)<((L.getD i default).l1.length:Int))) _ _
      refine⟨fun h3=>?_,fun h3=>?_⟩
      ·have hkl:k<(L.getD i default).l1.length:=Int.ofNat_lt.1 (of_decide_eq_true h3)
       show AOb ((0:Int)<=(i:Int)/\(i:Int)<(L.length:Int)) _
       refine⟨by omega,?_⟩
       show AOb ..
       refine⟨by decide,?_⟩
       show AOb ((0:Int)<=(k:Int)/\(k:Int)<((L.getD i default).l1.length:Int)) _
       refine⟨by omega,?_⟩
       show AOb ((G++(L.getD i default).l0++(L.getD i default).l1.take k).length+1<=zi) _
       refine⟨by simp only[List.length_append,List.length_take];omega,?_⟩
       have e9:(G++(L.getD i default).l0++(L.getD i default).l1.take k)++[at0 (L.getD i default).l1 k]=G++(L.getD i default).l0++(L.getD i default).l1.take (k+1):=by rw[zgL _ _ hkl,List.append_assoc]
       show ARound ..
       exact⟨⟨k+1,hkl⟩,Nat.sub_lt_sub_left hkl (Nat.lt_succ_self k),[(_,1)],.cons _ _ _ .same (.cons _ _ _ (.c _ _ (.own1 _ _)) (.cons _ _ _ .same (.cons _ _ _ .same (.cons _ _ _ (.int_eq (zP (i:=k) (by omega))) .nil)))),.old 1 _ _ _ _ rfl rfl (.data_eq e9) .nil,rfl⟩
      ·have hke:k=(L.getD i default).l1.length:=by have:=of_decide_eq_false h3;omega
       subst hke
       have t1:G++(L.getD i default).l0++(L.getD i default).l1.take (L.getD i default).l1.length=G++(L.getD i default).l0++(L.getD i default).l1:=by rw[List.take_length]
       show ALoop ..
       refine .next ?_
       show ABr ..
       refine⟨fun _=>?_,fun hx=>absurd hx (by decide)⟩
       show ∃n,_
       refine⟨0,ALoop.inv (ι:={k:Nat // k<=(L.getD i default).l2.length}) (fun k=>⟨[(0,.c (.d (.sl .lists L))),(3,.c (.own 1)),(4,.int i),(5,.int 2),(6,.int k.1)],[(1,.data .int (G++(L.getD i default).l0++(L.getD i default).l1++(L.getD i default).l2.take k.1))],64⟩) (fun k=>(L.getD i default).l2.length-k.1) ⟨0,Nat.zero_le _⟩ ?_ ?_⟩
       ·exact⟨[(1,1)],.cons _ _ _ .same (.cons _ _ _ (.c _ _ (.own _ _ rfl)) (.cons _ _ _ .same (.cons _ _ _ .same (.cons _ _ _ .same .nil)))),.old 1 1 _ _ _ rfl rfl (.data_eq (t1.trans (by rw[List.take_zero,List.append_nil]))) .nil,rfl⟩
       ·rintro⟨k,hk⟩
        have hk:k<=(L.getD i default).l2.length:=hk
        show AOb ((0:Int)<=(i:Int)/\(i:Int)<(L.length:Int)) _
        refine⟨by omega,?_⟩
        show AOb ..
        refine⟨by decide,?_⟩
        show ABr (decide ((k:Int)<((L.getD i default).l2.length:Int))) _ _
        refine⟨fun h3=>?_,fun h3=>?_⟩
        ·have hkl:k<(L.getD i default).l2.length:=Int.ofNat_lt.1 (of_decide_eq_true h3)
         show AOb ((0:Int)<=(i:Int)/\(i:Int)<(L.length:Int)) _
         refine⟨by omega,?_⟩
         show AOb ..
         refine⟨by decide,?_⟩
         show AOb ((0:Int)<=(k:Int)/\(k:Int)<((L.getD i default).l2.length:Int)) _
         refine⟨by omega,?_⟩
         show AOb ((G++(L.getD i default).l0++(L.getD i default).l1++(L.getD i default).l2.take k).length+1<=zi) _
         refine⟨by simp only[List.length_append,List.length_take];omega,?_⟩
         have e9:(G++(L.getD i default).l0++(L.getD i default).l1++(L.getD i default).l2.take k)++[at0 (L.getD i default).l2 k]=G++(L.getD i default).l0++(L.getD i default).l1++(L.getD i default).l2.take (k+1):=by rw[zgL _ _ hkl,List.append_assoc]
         show ARound ..
         exact⟨⟨k+1,hkl⟩,Nat.sub_lt_sub_left hkl (Nat.lt_succ_self k),[(_,1)],.cons _ _ _ .same (.cons _ _ _ (.c _ _ (.own1 _ _)) (.cons _ _ _ .same (.cons _ _ _ .same (.cons _ _ _ (.int_eq (zP (i:=k) (by omega))) .nil)))),.old 1 _ _ _ _ rfl rfl (.data_eq e9) .nil,rfl⟩
        ·have hke:k=(L.getD i default).l2.length:=by have:=of_decide_eq_false h3;omega
         subst hke
         have t2:G++(L.getD i default).l0++(L.getD i default).l1++(L.getD i default).l2.take (L.getD i default).l2.length=G++(L.getD i default).l0++(L.getD i default).l1++(L.getD i default).l2:=by rw[List.take_length]
         show ALoop ..
         refine .next ?_
         show ABr ..
         refine⟨fun hx=>absurd hx (by decide),fun _=>?_⟩
         show ARound ..
         exact⟨⟨i+1,hlt⟩,Nat.sub_lt_sub_left hlt (Nat.lt_succ_self i),[(1,1)],.cons _ _ _ .same (.cons _ _ _ (.c _ _ (.own _ _ rfl)) (.cons _ _ _ (.int_eq hwi) .nil)),.old 1 _ _ _ _ rfl rfl (.data_eq (t2.trans (by rw[hstep];simp only[Lists.flat,List.append_assoc]))) .nil,rfl⟩
  ·have hge:i=L.length:=by simp at h2;omega
   show ARet ..
   refine⟨[(1,0)],[(0,.data .int (flats L))],[.c (.own 0)],.cons _ _ _ _ (.c _ _ (.own _ _ rfl)) .nil,.old 0 1 _ _ _ rfl rfl (.data_eq ?_) .nil,rfl,rfl,rfl⟩
   show flats (L.take i)=flats L
   rw[hge,List.take_length]
theorem zlc {l:List Int} {i:Nat} (h:i<l.length):(l.take (i+1)).Nodup↔(l.take i).Nodup/\∀j,j<i->at0 l i≠at0 l j:=by
 rw[zgL l i h,List.nodup_append]
 constructor
 ·rintro⟨h1,_,h2⟩
  refine⟨h1,fun j hj e=>?_⟩
  refine h2 (at0 l j) ?_ (at0 l i) (by simp) e.symm
  rw[zch (by omega)]
  exact List.mem_take_iff_getElem.2 ⟨j,by omega,rfl⟩
 ·rintro⟨h1,h2⟩
  refine⟨h1,by simp,fun x hx y hy e=>?_⟩
  obtain⟨j,hj,rfl⟩:=List.mem_take_iff_getElem.1 hx
  have hy:y=at0 l i:=by simpa using hy
  refine h2 j (by omega) ?_
  rw[zch (i:=j) (by omega),e,hy]
set_option maxHeartbeats 1000000 in
theorem zpL (L:List Lists) (h:(flats L).length<=zi):Spec X 126 [] [.c (.d (.sl .lists L))] (Ret [] (.bo (decide (flats L).Nodup))):=by
 refine zGO X_ok Tryz.f126 fun hb _=>⟨rfl,?_⟩
 have hmost:zi<=zA:=by decide
 show ACall ..
 refine .mk _ (ztO L h) ?_
 rintro H r ⟨rfl,rfl⟩ _ _
 refine⟨.inl rfl,?_⟩
 generalize flats L=F at *
 show ∃n,_
 refine⟨0,ALoop.inv (ι:={i:Nat // i<=F.length/\(F.take i).Nodup}) (fun i=>⟨[(3,.c (.own 1)),(4,.int i.1)],[(1,.data .int F)],64⟩) (fun i=>F.length-i.1) ⟨0,Nat.zero_le _,by simp⟩ ?_ ?_⟩
 ·exact⟨[(_,1)],.cons _ _ _ (.c _ _ (.own1 _ _)) (.cons _ _ _ .same .nil),.old 1 _ _ _ _ rfl rfl (.data_eq rfl) .nil,rfl⟩
 ·rintro⟨i,hi,hn⟩
  have hi:i<=F.length:=hi
  have hn:(F.take i).Nodup:=hn
  show ABr (decide ((i:Int)<(F.length:Int))) _ _
  refine⟨fun h2=>?_,fun h2=>?_⟩
  ·have hlt:i<F.length:=Int.ofNat_lt.1 (of_decide_eq_true h2)
   have hwi:=zP (i:=i) (by omega)
   show ∃n,_
   refine⟨0,ALoop.inv (ι:={j:Nat // j<=i/\∀k,k<j->at0 F i≠at0 F k}) (fun j=>⟨[(3,.c (.own 1)),(4,.int i),(5,.int j.1)],[(1,.data .int F)],64⟩) (fun j=>i-j.1) ⟨0,Nat.zero_le _,fun k hk=>absurd hk (by omega)⟩ ?_ ?_⟩
   ·exact⟨[(1,1)],.cons _ _ _ (.c _ _ (.own _ _ rfl)) (.cons _ _ _ .same (.cons _ _ _ .same .nil)),.old 1 1 _ _ _ rfl rfl (.data_eq rfl) .nil,rfl⟩
   ·rintro⟨j,hj,ha⟩
    have hj:j<=i:=hj
    have hwj:=zP (i:=j) (by omega)
    show ABr (decide ((j:Int)<(i:Int))) _ _
    refine⟨fun h3=>?_,fun h3=>?_⟩
    ·have hlj:j<i:=Int.ofNat_lt.1 (of_decide_eq_true h3)
     show AOb ((0:Int)<=(i:Int)/\(i:Int)<(F.length:Int)) _
     refine⟨by omega,?_⟩
     show AOb ((i:Int).toNat<F.length) _
     refine⟨by omega,?_⟩
     show AOb ((0:Int)<=(j:Int)/\(j:Int)<(F.length:Int)) _
     refine⟨by omega,?_⟩
     show AOb ((j:Int).toNat<F.length) _
     refine⟨by omega,?_⟩
     show ABr (decide (at0 F i=at0 F j)) _ _
     refine⟨fun h4=>?_,fun h4=>?_⟩
     ·show ARet ..
      refine zo ?_ ⟨rfl,rfl⟩
      rw[eq_comm,decide_eq_false_iff_not]
      intro hnd
      have:(F.take (i+1)).Nodup:=(List.take_sublist (i+1) F).nodup hnd
      exact((zlc hlt).1 this).2 j hlj (of_decide_eq_true h4)
     ·show ARound ..
      refine⟨⟨j+1,hlj,fun k hk=>?_⟩,Nat.sub_lt_sub_left hlj (Nat.lt_succ_self j),[(1,1)],.cons _ _ _ (.c _ _ (.own _ _ rfl)) (.cons _ _ _ .same (.cons _ _ _ (.int_eq hwj) .nil)),.old 1 1 _ _ _ rfl rfl (.data_eq rfl) .nil,rfl⟩
      by_cases hkj:k=j
      ·subst hkj;exact of_decide_eq_false h4
      ·exact ha k (by have:k<j+1:=hk;omega)
    ·have hje:j=i:=by have:=of_decide_eq_false h3;omega
     subst hje
     show ARound ..
     exact⟨⟨j+1,hlt,(zlc hlt).2 ⟨hn,ha⟩⟩,Nat.sub_lt_sub_left hlt (Nat.lt_succ_self j),[(1,1)],.cons _ _ _ (.c _ _ (.own _ _ rfl)) (.cons _ _ _ (.int_eq hwi) .nil),.old 1 1 _ _ _ rfl rfl (.data_eq rfl) .nil,rfl⟩
  ·have hge:i=F.length:=by have:=of_decide_eq_false h2;omega
   show ARet ..
   refine zo ?_ ⟨rfl,rfl⟩
   rw[hge,List.take_length]at hn
   rw[eq_comm,decide_eq_true_iff]
   exact hn
end Go.Abs
