/- Walks and plain laws: WCells1, WArena1, WSortK. -/
import Derived.Test.YtlankjlnnimdoaaGreatDoorPa
import Derived.Test.YtlankjlnnimdoaaGreatDoorAbsBase1
import Derived.Shelf.Sort.Plain
import Derived.Shelf.Lay
set_option linter.all false
namespace Go.Abs
open Go.Proofs Go.Proofs.YtlankjlnnimdoaaGreatDoor
set_option maxRecDepth 8000
def zaj (p:Page):Bool:=decide ((p.kind=0/\p.arg=0)\/(p.kind=1/\0<=p.arg/\p.arg<=2)\/(p.kind=2/\1<=p.arg/\p.arg<=4))
def pgo:Int->List Page->Bool
 |r,[]=>decide (r=0)
 |r,p::l=>bif decide (p.kind=3) then !decide (r=0)&&decide (p.arg=0)&&pgo (r-1) l else zaj p&&!decide (r>0)&&pgo (if p.kind=2 then p.arg-1 else r) l
def zao (l:List Page):Bool:=pgo 0 l&&decide (1<=l.length/\l.length<=64)
theorem zeS (a b c:Int):Spec X 136 [] [.int a,.int b,.int c] (Ret [] (.bo (decide (b<=a/\a<=c)))):=by
 refine zGO X_ok Tryz.f136 fun hb hH=>⟨rfl,?_⟩
 show ARet ..
 refine zo (x:=bif decide (a>=b) then decide (a<=c) else false) ?_ ⟨rfl,rfl⟩
 by_cases h:b<=a<;>simp[h]
theorem znS {l:List Page} {i:Nat} {r:Int} (h:i<l.length):pgo r (l.drop i)=pgo r (l.getD i default::l.drop (i+1)):=by
 rw[List.drop_eq_getElem_cons h,List.getD_eq_getElem?_getD,List.getElem?_eq_getElem h]
 rfl
theorem zcO (l:List Page):Spec X 99 [] [.c (.d (.sl .page l))] (Ret [] (.bo (zao l))):=by
 refine zGO X_ok Tryz.f99 fun hb hH=>⟨rfl,?_⟩
 have hla:l.length<=zA:=(hb (.c (.d (.sl .page l))) (by simp)).1
 unfold zA at hla
 show ∃n,_
 refine⟨0,ALoop.inv (ι:={p:Nat×Int // p.1<=l.length/\0<=p.2/\p.2<=3/\pgo 0 l=pgo p.2 (l.drop p.1)}) (fun p=>⟨[(0,.c (.d (.sl .page l))),(3,.int p.1.2),(6,.c (.d (.sl .page l))),(7,.int l.length),(8,.int p.1.1)],[],32⟩) (fun p=>l.length-p.1.1) ⟨(0,0),Nat.zero_le _,Int.le_refl _,by show(0:Int)<=3;omega,rfl⟩ ?_ ?_⟩
 ·exact⟨[],.cons _ _ _ .same (.cons _ _ _ .same (.cons _ _ _ .same (.cons _ _ _ .same (.cons _ _ _ .same .nil)))),.nil,rfl⟩
 ·rintro⟨⟨i,r⟩,hi,hr0,hr3,he⟩
  have hi:i<=l.length:=hi
  have hr0:0<=r:=hr0
  have hr3:r<=3:=hr3
  have he:pgo 0 l=pgo r (l.drop i):=he
  show ABr (decide ((i:Int)<(l.length:Int))) _ _
  refine⟨fun h=>?_,fun h=>?_⟩
  ·have hlt:i<l.length:=by simpa using h
   rw[znS hlt]at he
   generalize hp:l.getD i default=p at he
   have bad:pgo 0 l=false->zao l=false:=fun h=>by unfold zao;rw[h];rfl
   show AOb ((0:Int)<=(i:Int)/\(i:Int)<(l.length:Int)) _
   refine⟨by omega,?_⟩
   show ABr (decide ((l.getD i default).kind=3)) _ _
   rw[hp]
   refine⟨fun h=>?_,fun h=>?_⟩
   ·have hk:p.kind=3:=of_decide_eq_true h
    have he:pgo 0 l=(!decide (r=0)&&decide (p.arg=0)&&pgo (r-1) (l.drop (i+1))):=by rw[he];simp only[pgo,hk,decide_true,cond_true]
    show ABr (bif decide (r=0) then true else (l.getD i default).arg != 0) _ _
    rw[hp]
    refine⟨fun h=>?_,fun h=>?_⟩
    ·show ARet ..
     refine zo (x:=false) ?_ ⟨rfl,rfl⟩
     refine(bad ?_).symm
     rw[he]
     by_cases h1:r=0
     ·simp[h1]
     ·simp[h1]at h
      simp[h]
    ·have h1:r≠0/\p.arg=0:=by
      by_cases h1:r=0
      ·simp[h1]at h
      ·simp[h1]at h;exact⟨h1,h⟩
     show ARound ..
     exact⟨⟨(i+1,r-1),hlt,by show 0<=r-1;omega,by show r-1<=3;omega,by show pgo 0 l=pgo (r-1) (l.drop (i+1));rw[he];simp[h1]⟩,by show l.length-(i+1)<l.length-i;omega,[],.cons _ _ _ .same (.cons _ _ _ (.int_eq (zu (n:=r-1) (by omega) (by omega))) (.cons _ _ _ .same (.cons _ _ _ .same (.cons _ _ _ (.int_eq (zP (i:=i) (by unfold zA;omega))) .nil)))),.nil,rfl⟩
   ·have hk:p.kind≠3:=of_decide_eq_false h
    have he:pgo 0 l=(zaj p&&!decide (r>0)&&pgo (if p.kind=2 then p.arg-1 else r) (l.drop (i+1))):=by rw[he];simp only[pgo,hk,decide_false,cond_false]
    have nofit:zaj p=false->zao l=false:=fun h=>bad (by rw[he,h];rfl)
    have rest:∀(r2:Int),True:=fun _=>trivial
    show ABr (decide ((l.getD i default).kind=0)) _ _
    rw[hp]
    refine⟨fun h=>?_,fun h=>?_⟩
    ·have hk0:p.kind=0:=of_decide_eq_true h
     show ABr ((l.getD i default).arg != 0) _ _
     rw[hp]
     refine⟨fun h=>?_,fun h=>?_⟩
     ·show ARet ..
      refine zo (x:=false) (nofit ?_).symm ⟨rfl,rfl⟩
      simp at h
      simp[zaj,hk0,h]
     ·have ha:p.arg=0:=by simpa using h
      have hf:zaj p=true:=by simp[zaj,hk0,ha]
      show ABr (decide (r>0)) _ _
      refine⟨fun h=>?_,fun h=>?_⟩
      ·show ARet ..
       refine zo (x:=false) (bad ?_).symm ⟨rfl,rfl⟩
       rw[he,h];simp
      ·show ABr (decide ((l.getD i default).kind=2)) _ _
       rw[hp]
       refine⟨fun h=>absurd (of_decide_eq_true h) (by omega),fun _=>?_⟩
       show ARound ..
       exact⟨⟨(i+1,r),hlt,hr0,hr3,by show pgo 0 l=pgo r (l.drop (i+1));rw[he,hf,h,if_neg (by omega)];simp⟩,by show l.length-(i+1)<l.length-i;omega,[],.cons _ _ _ .same (.cons _ _ _ .same (.cons _ _ _ .same (.cons _ _ _ .same (.cons _ _ _ (.int_eq (zP (i:=i) (by unfold zA;omega))) .nil)))),.nil,rfl⟩
    ·have hk0:p.kind≠0:=of_decide_eq_false h
     show ABr (decide ((l.getD i default).kind=1)) _ _
     rw[hp]
     refine⟨fun h=>?_,fun h=>?_⟩
     ·have hk1:p.kind=1:=of_decide_eq_true h
      show ACall ..
      refine za (zeS (l.getD i default).arg 0 2) rfl ?_
      rw[hp]
      show ABr (!decide (0<=p.arg/\p.arg<=2)) _ _
      refine⟨fun h=>?_,fun h=>?_⟩
      ·show ARet ..
       refine zo (x:=false) (nofit ?_).symm ⟨rfl,rfl⟩
       simp at h
       simp[zaj,hk1]
       omega
      ·have ha:0<=p.arg/\p.arg<=2:=by simpa using h
       have hf:zaj p=true:=by simp[zaj,hk1,ha]
       show ABr (decide (r>0)) _ _
       refine⟨fun h=>?_,fun h=>?_⟩
       ·show ARet ..
        refine zo (x:=false) (bad ?_).symm ⟨rfl,rfl⟩
        rw[he,h];simp
       ·show ABr (decide ((l.getD i default).kind=2)) _ _
        rw[hp]
        refine⟨fun h=>absurd (of_decide_eq_true h) (by omega),fun _=>?_⟩
        show ARound ..
        exact⟨⟨(i+1,r),hlt,hr0,hr3,by show pgo 0 l=pgo r (l.drop (i+1));rw[he,hf,h,if_neg (by omega)];simp⟩,by show l.length-(i+1)<l.length-i;omega,[],.cons _ _ _ .same (.cons _ _ _ .same (.cons _ _ _ .same (.cons _ _ _ .same (.cons _ _ _ (.int_eq (zP (i:=i) (by unfold zA;omega))) .nil)))),.nil,rfl⟩
     ·have hk1:p.kind≠1:=of_decide_eq_false h
      show ABr (decide ((l.getD i default).kind=2)) _ _
      rw[hp]
      refine⟨fun h=>?_,fun h=>?_⟩
      ·have hk2:p.kind=2:=of_decide_eq_true h
       show ACall ..
       refine za (zeS (l.getD i default).arg 1 4) rfl ?_
       rw[hp]
       show ABr (!decide (1<=p.arg/\p.arg<=4)) _ _
       refine⟨fun h=>?_,fun h=>?_⟩
       ·show ARet ..
        refine zo (x:=false) (nofit ?_).symm ⟨rfl,rfl⟩
        simp at h
        simp[zaj,hk2]
        omega
       ·have ha:1<=p.arg/\p.arg<=4:=by simpa using h
        have hf:zaj p=true:=by simp[zaj,hk2,ha]
        show ABr (decide (r>0)) _ _
        refine⟨fun h=>?_,fun h=>?_⟩
        ·show ARet ..
         refine zo (x:=false) (bad ?_).symm ⟨rfl,rfl⟩
         rw[he,h];simp
        ·show ABr (decide ((l.getD i default).kind=2)) _ _
         rw[hp]
         refine⟨fun _=>?_,fun h=>absurd hk2 (of_decide_eq_false h)⟩
         show ARound ..
         exact⟨⟨(i+1,p.arg-1),hlt,by show 0<=p.arg-1;omega,by show p.arg-1<=3;omega,by show pgo 0 l=pgo (p.arg-1) (l.drop (i+1));rw[he,hf,h,if_pos hk2];simp⟩,by show l.length-(i+1)<l.length-i;omega,[],.cons _ _ _ .same (.cons _ _ _ (.int_eq (by show IntKind.i64.wrap ((l.getD i default).arg-1)=p.arg-1;rw[hp];exact zu (by omega) (by omega))) (.cons _ _ _ .same (.cons _ _ _ .same (.cons _ _ _ (.int_eq (zP (i:=i) (by unfold zA;omega))) .nil)))),.nil,rfl⟩
      ·have hk2:p.kind≠2:=of_decide_eq_false h
       show ARet ..
       refine zo (x:=false) (nofit ?_).symm ⟨rfl,rfl⟩
       simp[zaj,hk0,hk1,hk2]
  ·have hge:i=l.length:=by simp at h;omega
   subst hge
   rw[List.drop_length]at he
   have he:pgo 0 l=decide (r=0):=he
   show AIf (decide (r=0)=true/\True) _ _
   refine⟨fun h=>?_,fun h=>?_⟩
   ·show ACall ..
    refine za (zeS (l.length:Int) 1 64) rfl ?_
    show ARet ..
    refine zo (y:=zao l) (x:=decide ((1:Int)<=l.length/\(l.length:Int)<=64)) ?_ ⟨rfl,rfl⟩
    unfold zao
    rw[he,h.1]
    simp only[Bool.true_and,decide_eq_decide]
    omega
   ·have h1:decide (r=0)=false:=by
     by_cases h0:r=0
     ·exact absurd (And.intro (decide_eq_true h0) trivial) h
     ·exact decide_eq_false h0
    show AOb (decide (r=0)=false) _
    refine⟨h1,?_⟩
    show ARet ..
    refine zo (x:=false) ?_ ⟨rfl,rfl⟩
    unfold zao
    rw[he,h1]
    rfl
theorem ztk {r:Int} (h:0<r):pgo r []=false:=by simp[pgo];omega
theorem zl2 {r:Int} (h:0<r) (q:Page) (l:List Page):pgo r (q::l)=(decide (q=⟨3,0⟩)&&pgo (r-1) l):=by
 obtain⟨k,a⟩:=q
 simp only[pgo]
 by_cases hk:k=3
 ·subst hk
  have h0:r≠0:=by omega
  simp[h0]
 ·have:¬(⟨k,a⟩:Page)=⟨3,0⟩:=fun e=>hk (by injection e)
  simp[hk,this,h]
theorem zkH (l:List Page):Spec X 123 [] [.c (.d (.sl .page l))] (Ret [] (.bo (zao l))):=by
 refine zGO X_ok Tryz.f123 fun hb hH=>⟨rfl,?_⟩
 have hla:l.length<=zA:=(hb (.c (.d (.sl .page l))) (by simp)).1
 unfold zA at hla
 show ABr (bif decide ((l.length:Int)<1) then true else decide ((l.length:Int)>64)) _ _
 refine⟨fun h=>?_,fun h=>?_⟩
 ·show ARet ..
  refine zo (x:=false) ?_ ⟨rfl,rfl⟩
  unfold zao
  have:¬(1<=l.length/\l.length<=64):=by
   by_cases h1:(l.length:Int)<1
   ·omega
   ·simp[h1]at h;omega
  simp[this]
 ·have hlen:1<=l.length/\l.length<=64:=by
   by_cases h1:(l.length:Int)<1
   ·simp[h1]at h
   ·simp[h1]at h;omega
  have hmay:zao l=pgo 0 l:=by unfold zao;simp[hlen]
  rw[hmay]
  show ∃n,_
  refine⟨0,ALoop.inv (ι:={i:Nat // i<=l.length/\pgo 0 l=pgo 0 (l.drop i)}) (fun i=>⟨[(0,.c (.d (.sl .page l))),(3,.int i.1)],[],32⟩) (fun i=>l.length-i.1) ⟨0,Nat.zero_le _,rfl⟩ ?_ ?_⟩
  ·exact⟨[],.cons _ _ _ .same (.cons _ _ _ .same .nil),.nil,rfl⟩
  ·rintro⟨i,hi,he⟩
   show ABr (decide ((i:Int)<(l.length:Int))) _ _
   refine⟨fun h=>?_,fun h=>?_⟩
   ·have hlt:i<l.length:=by simpa using h
    rw[znS hlt]at he
    generalize hp:l.getD i default=p at he
    have wi:IntKind.i64.wrap ((i:Int)+1)=((i+1:Nat):Int):=zP (i:=i) (by unfold zA;omega)
    have again:pgo 0 l=pgo 0 (l.drop (i+1))->∀s:AS,ALe s ⟨[(0,.c (.d (.sl .page l))),(3,.int ((i+1:Nat):Int))],[],32⟩->ARound (ι:={i:Nat // i<=l.length/\pgo 0 l=pgo 0 (l.drop i)}) (fun i=>⟨[(0,.c (.d (.sl .page l))),(3,.int i.1)],[],32⟩) (fun i=>l.length-i.1) ⟨i,hi,by rw[znS hlt,hp];exact he⟩ s:=fun h s hs=>⟨⟨i+1,hlt,h⟩,by show l.length-(i+1)<l.length-i;omega,hs⟩
    show AOb ((0:Int)<=(i:Int)/\(i:Int)<(l.length:Int)) _
    refine⟨by omega,?_⟩
    show ABr (bif decide ((l.getD i default).kind=0) then decide ((l.getD i default).arg=0) else false) _ _
    rw[hp]
    refine⟨fun h=>?_,fun h=>?_⟩
    ·have hk:p.kind=0/\p.arg=0:=by
      by_cases h1:p.kind=0
      ·simp[h1]at h;exact⟨h1,h⟩
      ·simp[h1]at h
     show ARound ..
     refine again ?_ _ ⟨[],.cons _ _ _ .same (.cons _ _ _ (.int_eq wi) .nil),.nil,rfl⟩
     rw[he]
     simp[pgo,zaj,hk]
    ·have h0:¬(p.kind=0/\p.arg=0):=fun h1=>by simp[h1]at h
     show ABr (bif (bif decide ((l.getD i default).kind=1) then decide ((l.getD i default).arg>=0) else false) then decide ((l.getD i default).arg<=2) else false) _ _
     rw[hp]
     refine⟨fun h=>?_,fun h=>?_⟩
     ·have hk:p.kind=1/\0<=p.arg/\p.arg<=2:=by
       by_cases h1:p.kind=1
       ·by_cases h2:0<=p.arg
        ·simp[h1,h2]at h;exact⟨h1,h2,h⟩
        ·simp[h1,h2]at h
       ·simp[h1]at h
      show ARound ..
      refine again ?_ _ ⟨[],.cons _ _ _ .same (.cons _ _ _ (.int_eq wi) .nil),.nil,rfl⟩
      rw[he]
      simp[pgo,zaj,hk]
     ·have h1:¬(p.kind=1/\0<=p.arg/\p.arg<=2):=fun h1=>by simp[h1]at h
      show ABr (bif (bif ((l.getD i default).kind != 2) then true else decide ((l.getD i default).arg<1)) then true else decide ((l.getD i default).arg>4)) _ _
      rw[hp]
      refine⟨fun h=>?_,fun h=>?_⟩
      ·have h2:¬(p.kind=2/\1<=p.arg/\p.arg<=4):=fun h2=>by
        have e1:¬p.arg<1:=by omega
        have e2:¬p.arg>4:=by omega
        simp[h2,e1]at h
        omega
       show ARet ..
       refine zo (x:=false) ?_ ⟨rfl,rfl⟩
       rw[he]
       have hf:zaj p=false:=by
        unfold zaj
        exact decide_eq_false fun h3=>h3.elim h0 fun h3=>h3.elim h1 h2
       simp[pgo,hf]
      ·have h2:p.kind=2/\1<=p.arg/\p.arg<=4:=by
        by_cases e1:p.kind=2
        ·by_cases e2:p.arg<1
         ·simp[e1,e2]at h
         ·simp[e1,e2]at h;omega
        ·simp[e1]at h
       have he:pgo 0 l=pgo (p.arg-1) (l.drop (i+1)):=by rw[he];simp[pgo,zaj,h2]
       show ∃n,_
       refine⟨0,ALoop.inv (ι:={q:Nat×Nat // i+1<=q.1/\q.1<=l.length/\1<=q.2/\(q.2:Int)<=p.arg/\pgo 0 l=pgo (p.arg-q.2) (l.drop q.1)}) (fun q=>⟨[(0,.c (.d (.sl .page l))),(3,.int q.1.1),(4,.c (.ptr 1 0 0)),(5,.int q.1.2)],[(1,.vars [.d (DV.int p.kind),.d (DV.int p.arg)])],64⟩) (fun q=>5-q.1.2) ⟨(i+1,1),Nat.le_refl _,hlt,Nat.le_refl _,h2.2.1,he⟩ ?_ ?_⟩
       ·exact⟨[(_,1)],.cons _ _ _ .same (.cons _ _ _ (.int_eq wi) (.cons _ _ _ (.c _ _ (.ptr1 _ _ _ _)) (.cons _ _ _ .same .nil))),.old 1 _ _ _ _ rfl rfl (.vars _ _ (.cons _ _ _ _ (.int_eq (by rw[←hp];rfl)) (.cons _ _ _ _ (.int_eq (by rw[←hp];rfl)) .nil))) .nil,rfl⟩
       ·rintro⟨⟨j,k⟩,hij,hj,hk1,hka,hej⟩
        have hij:i+1<=j:=hij
        have hj:j<=l.length:=hj
        have hk1:1<=k:=hk1
        have hka:(k:Int)<=p.arg:=hka
        have hej:pgo 0 l=pgo (p.arg-k) (l.drop j):=hej
        show ABr (decide ((k:Int)<p.arg)) _ _
        refine⟨fun h=>?_,fun h=>?_⟩
        ·have hkl:(k:Int)<p.arg:=of_decide_eq_true h
         show ABr (decide ((j:Int)>=(l.length:Int))) _ _
         refine⟨fun h=>?_,fun h=>?_⟩
         ·have hge:j=l.length:=by simp at h;omega
          subst hge
          rw[List.drop_length,ztk (by omega)]at hej
          refine zYE (by decide) ?_
          show ARet ..
          refine zo (x:=false) hej.symm ⟨rfl,rfl⟩
         ·have hjl:j<l.length:=by simp at h;omega
          rw[znS hjl,zl2 (by omega)]at hej
          show AOb ((0:Int)<=(j:Int)/\(j:Int)<(l.length:Int)) _
          refine⟨by omega,?_⟩
          generalize hq:l.getD j default=q at hej
          show ABr (!((l.getD j default).kind==3&&((l.getD j default).arg==0&&true))) _ _
          rw[hq]
          have hqe:(q.kind==3&&(q.arg==0&&true))=decide (q=⟨3,0⟩):=by
           obtain⟨k,a⟩:=q
           by_cases e1:k=3<;>by_cases e2:a=0<;>simp[e1,e2]
          rw[hqe]
          refine⟨fun h=>?_,fun h=>?_⟩
          ·have h:decide (q=⟨3,0⟩)=false:=by simpa using h
           show ARet ..
           refine zo (x:=false) ?_ ⟨rfl,rfl⟩
           rw[hej,h]
           rfl
          ·have h:decide (q=⟨3,0⟩)=true:=by simpa using h
           show ARound ..
           refine⟨⟨(j+1,k+1),by show i+1<=j+1;omega,hjl,by show 1<=k+1;omega,by show((k+1:Nat):Int)<=p.arg;omega,?_⟩,by show 5-(k+1)<5-k;omega,[(1,1)],.cons _ _ _ .same (.cons _ _ _ (.int_eq (zP (i:=j) (by unfold zA;omega))) (.cons _ _ _ (.c _ _ (.ptr1 _ _ _ _)) (.cons _ _ _ (.int_eq (zP (i:=k) (by unfold zA;omega))) .nil))),.old 1 1 _ _ _ rfl rfl (.vars _ _ (.cons _ _ _ _ (.d _) (.cons _ _ _ _ (.d _) .nil))) .nil,rfl⟩
           show pgo 0 l=pgo (p.arg-((k+1:Nat):Int)) (l.drop (j+1))
           rw[hej,h,show p.arg-((k+1:Nat):Int)=p.arg-k-1 from by omega]
           rfl
        ·have hke:(k:Int)=p.arg:=by have:=of_decide_eq_false h;omega
         show ARound ..
         exact⟨⟨j,hj,by show pgo 0 l=pgo 0 (l.drop j);rw[hej,hke,Int.sub_self]⟩,by show l.length-j<l.length-i;omega,[],.cons _ _ _ .same (.cons _ _ _ .same .nil),.nil,rfl⟩
   ·have hge:i=l.length:=by simp at h;omega
    show ARet ..
    refine zo (x:=true) ?_ ⟨rfl,rfl⟩
    rw[he,hge,List.drop_length]
    rfl
theorem znZ (i:Int) (h:0<=i/\i<=4611686018427387):Spec X 140 [] [.int i] (Ret [] (.int (16*(i+1)))):=by
 refine zGO X_ok Tryz.f140 fun hb hH=>⟨rfl,?_⟩
 show ARet _ _ [.int (IntKind.i64.wrap (IntKind.i64.wrap (i+1)*16))]
 rw[zu (n:=i+1) (by omega) (by omega),zu (by omega) (by omega),Int.mul_comm]
 exact zg rfl ⟨rfl,rfl⟩
def zuO (L:Nat):zh->TV->Prop:=fun H _=>H=[(16,.ghost X.P L (some []))]\/H=[(16,.ghost X.P L none)]
abbrev zx4 (L:Nat):TV:=.lit (.func (.yield L) #[] #[])
def zH (p:Page) (a:Int):List (Int×Int):=
 if p.kind=2 then [(a,p.arg*16)] else if p.kind=1 then (List.range (clsN p.arg).toNat).map (fun i:Nat=>(a+(i:Int)*clsW p.arg,clsW p.arg)) else []
def zbu (p:Page):Prop:=(p.kind=1->0<=p.arg/\p.arg<=2)/\(p.kind=2->1<=p.arg/\p.arg<=4)
theorem zdh {L:Nat} {s:AS} {o:Option (List (Int×Int))} (h:zj s.h 16=some (.ghost X.P L o)) (ho:o=some []\/o=none):ARet (zuO L) s []:=by
 refine⟨[(16,16)],[(16,.ghost X.P L o)],[],.nil,.old 16 16 _ _ _ rfl h (.ghost _ _ _) .nil,rfl,?_⟩
 rcases ho with rfl|rfl
 ·exact .inl rfl
 ·exact .inr rfl
theorem zpa (L:Nat) (l:List Page) (i:Nat) (hi:i<l.length) (hsz:l.length<=64) (hp:zbu (l.getD i default)) :
  Spec X 139 [(16,.ghost X.P L (some (zH (l.getD i default) (16*((i:Int)+1)))))] [zx4 L,.c (.d (.rp [.sl .page l])),.c (.d (.rp [DV.int i]))] (zuO L):=by
 generalize hpe:l.getD i default=p at hp
 have hget:l.getD i default=p:=hpe
 refine zGO X_ok Tryz.f139 fun hb hH=>⟨rfl,?_⟩
 show AOb ((0:Int)<=(i:Int)/\(i:Int)<(l.length:Int)) _
 refine⟨by omega,?_⟩
 show ADCall ..
 refine .mk _ _ (znZ (i:Int) (by omega)) rfl ?_
 show ABr (decide ((l.getD i default).kind=2)) _ _
 rw[hget]
 refine⟨fun h=>?_,fun h=>?_⟩
 ·have hk:p.kind=2:=of_decide_eq_true h
  have ha:=hp.2 hk
  have hw:IntKind.i64.wrap ((l.getD i default).arg*16)=p.arg*16:=by rw[hget];exact zu (by omega) (by omega)
  have e:zH p (16*((i:Int)+1))=[(16*((i:Int)+1),p.arg*16)]:=by unfold zH;rw[if_pos hk]
  show AYield _ _ [.agg [.d (DV.int (16*((i:Int)+1))),.d (DV.int (IntKind.i64.wrap ((l.getD i default).arg*16)))]] _ _
  rw[hw,e]
  refine .mk 16 (16*((i:Int)+1),p.arg*16) [] rfl rfl ?_ ?_
  ·show ARet ..
   exact zdh rfl (.inl rfl)
  ·show ARet ..
   exact zdh rfl (.inr rfl)
 ·have hk:p.kind≠2:=of_decide_eq_false h
  show ABr (decide ((l.getD i default).kind=1)) _ _
  rw[hget]
  refine⟨fun h=>?_,fun h=>?_⟩
  ·have hk1:p.kind=1:=of_decide_eq_true h
   have ha:=hp.1 hk1
   obtain⟨n,hn,hn8⟩:∃n:Nat,clsN p.arg=(n:Int)/\n<=8:=by
    have:p.arg=0\/p.arg=1\/p.arg=2:=by omega
    rcases this with e|e|e<;>rw[e]
    ·exact⟨8,rfl,by omega⟩
    ·exact⟨4,rfl,by omega⟩
    ·exact⟨2,rfl,by omega⟩
   have hw8:0<=clsW p.arg/\clsW p.arg<=8:=by unfold clsW;repeat (split;omega);omega
   have e:zH p (16*((i:Int)+1))=(List.range n).map (fun j:Nat=>(16*((i:Int)+1)+(j:Int)*clsW p.arg,clsW p.arg)):=by
    unfold zH
    rw[if_neg hk,if_pos hk1,hn]
    rfl
   rw[e]
   show ACall ..
   refine za (zjT (l.getD i default).arg) rfl ?_
   show ACall ..
   refine za (zjK (l.getD i default).arg) rfl ?_
   rw[hget,hn]
   show ∃n,_
   refine⟨0,ALoop.inv (ι:={j:Nat // j<=n}) (fun j=>⟨[(0,zx4 L),(5,.int (16*((i:Int)+1))),(6,.int (clsW p.arg)),(32,.int (n:Int)),(33,.int j.1)],[(16,.ghost X.P L (some (((List.range n).map (fun j:Nat=>(16*((i:Int)+1)+(j:Int)*clsW p.arg,clsW p.arg))).drop j.1)))],32⟩) (fun j=>n-j.1) ⟨0,Nat.zero_le _⟩ ?_ ?_⟩
   ·exact⟨[(16,16)],.cons _ _ _ .same (.cons _ _ _ .same (.cons _ _ _ .same (.cons _ _ _ .same (.cons _ _ _ .same .nil)))),.old 16 16 _ _ _ rfl rfl (.ghost _ _ _) .nil,rfl⟩
   ·rintro⟨j,hj⟩
    have hj:j<=n:=hj
    show ABr (decide ((j:Int)<(n:Int))) _ _
    refine⟨fun h=>?_,fun h=>?_⟩
    ·have hlt:j<n:=by simpa using h
     have hjw:0<=(j:Int)*clsW p.arg/\(j:Int)*clsW p.arg<=64:=by
      have h1:(j:Int)*clsW p.arg<=8*8:=Int.mul_le_mul (by omega) hw8.2 hw8.1 (by omega)
      exact⟨Int.mul_nonneg (by omega) hw8.1,by omega⟩
     have hw:IntKind.i64.wrap (16*((i:Int)+1)+IntKind.i64.wrap ((j:Int)*clsW p.arg))=16*((i:Int)+1)+(j:Int)*clsW p.arg:=by
      rw[zu (n:=(j:Int)*clsW p.arg) (by omega) (by omega),zu (by omega) (by omega)]
     have hd:((List.range n).map (fun j:Nat=>(16*((i:Int)+1)+(j:Int)*clsW p.arg,clsW p.arg))).drop j=(16*((i:Int)+1)+(j:Int)*clsW p.arg,clsW p.arg)::((List.range n).map (fun j:Nat=>(16*((i:Int)+1)+(j:Int)*clsW p.arg,clsW p.arg))).drop (j+1):=by
      rw[List.drop_eq_getElem_cons (by simpa using hlt)]
      simp
     show AYield _ _ [.agg [.d (DV.int (IntKind.i64.wrap (16*((i:Int)+1)+IntKind.i64.wrap ((j:Int)*clsW p.arg)))),.d (DV.int (clsW p.arg))]] _ _
     rw[hw]
     refine .mk 16 (16*((i:Int)+1)+(j:Int)*clsW p.arg,clsW p.arg) _ (congrArg (fun r=>some (AB.ghost X.P L (some r))) hd) rfl ?_ ?_
     ·refine zNO (by decide) ?_
      show ARound ..
      exact⟨⟨j+1,hlt⟩,by show n-(j+1)<n-j;omega,[(16,16)],.cons _ _ _ .same (.cons _ _ _ .same (.cons _ _ _ .same (.cons _ _ _ .same (.cons _ _ _ (.int_eq (zP (i:=j) (by unfold zA;omega))) .nil)))),.old 16 16 _ _ _ rfl rfl (.ghost _ _ _) .nil,rfl⟩
     ·refine zYE (by decide) ?_
      show ARet ..
      exact zdh rfl (.inr rfl)
    ·have hge:j=n:=by simp at h;omega
     show ARet ..
     refine zdh (o:=some (((List.range n).map (fun j:Nat=>(16*((i:Int)+1)+(j:Int)*clsW p.arg,clsW p.arg))).drop j)) rfl (.inl ?_)
     rw[hge,List.drop_eq_nil_of_le (by simp)]
  ·have hk1:p.kind≠1:=of_decide_eq_false h
   have e:zH p (16*((i:Int)+1))=[]:=by unfold zH;rw[if_neg hk,if_neg hk1]
   show ARet ..
   rw[e]
   exact zdh rfl (.inl rfl)
theorem zsI (l:List Page) (i:Int):Spec X 108 [] [.c (.d (.sl .page l)),.int i] (Ret [] (.c (.d (.fn 139 [] [.rp [.sl .page l],.rp [DV.int i]])))):=by
 refine zGO X_ok Tryz.f108 fun hb hH=>⟨rfl,?_⟩
 show ARet ..
 exact zfM (.c _ _ (.frz _ _ rfl)) ⟨rfl,rfl⟩
theorem zqp (l:List Page):Spec X 62 [] [.c (.d (.sl .page l))] (Ret [] (.c (.d (.fn 107 [] [.rp [.sl .page l]])))):=by
 refine zGO X_ok Tryz.f62 fun hb hH=>⟨rfl,?_⟩
 show ARet ..
 exact zfM (.c _ _ (.frz _ _ rfl)) ⟨rfl,rfl⟩
def zZ (l:List Page) (i:Nat):List (Int×Int):=((List.range l.length).drop i).flatMap fun j=>zH (l.getD j default) (16*((j:Int)+1))
theorem zcG {l:List Page} {i:Nat} (h:i<l.length):zZ l i=zH (l.getD i default) (16*((i:Int)+1))++zZ l (i+1):=by
 unfold zZ
 rw[List.drop_eq_getElem_cons (by simpa using h),List.flatMap_cons]
 simp
theorem zdd {l:List Page} {i:Nat} (h:l.length<=i):zZ l i=[]:=by
 unfold zZ
 rw[List.drop_eq_nil_of_le (by simpa using h)]
 rfl
def cellsAll (l:List Page):List (Int×Int):=if zao l then zZ l 0 else []
theorem zvY {l:List Page}:∀ {r:Int},pgo r l=true->∀p∈l,zbu p:=by
 induction l with
 |nil=>intro r _ p hp;cases hp
 |cons q l ih=>
  intro r h p hp
  simp only[pgo]at h
  by_cases hk:q.kind=3
  ·simp[hk]at h
   rcases List.mem_cons.1 hp with rfl|hp
   ·exact⟨fun e=>by omega,fun e=>by omega⟩
   ·exact ih h.2 p hp
  ·simp[hk]at h
   rcases List.mem_cons.1 hp with rfl|hp
   ·have:=h.1.1
    simp[zaj]at this
    exact⟨fun e=>by omega,fun e=>by omega⟩
   ·exact ih h.2 p hp
theorem zag {l:List Page} (h:zao l=true):(∀i,i<l.length->zbu (l.getD i default))/\1<=l.length/\l.length<=64:=by
 unfold zao at h
 rw[Bool.and_eq_true,decide_eq_true_eq]at h
 refine⟨fun i hi=>zvY h.1 _ ?_,h.2⟩
 rw[List.getD_eq_getElem?_getD,List.getElem?_eq_getElem hi]
 exact List.getElem_mem hi
theorem zmx (L:Nat) (l:List Page):Spec X 107 [(16,.ghost X.P L (some (cellsAll l)))] [zx4 L,.c (.d (.rp [.sl .page l]))] (zuO L):=by
 refine zGO X_ok Tryz.f107 fun hb hH=>⟨rfl,?_⟩
 show ACall ..
 refine za (zcO l) rfl ?_
 show ABr (!zao l) _ _
 refine⟨fun h=>?_,fun h=>?_⟩
 ·have hm:zao l=false:=by simpa using h
  show ARet ..
  exact zdh (o:=some (cellsAll l)) rfl (.inl (by unfold cellsAll;rw[hm];rfl))
 ·have hm:zao l=true:=by simpa using h
  obtain⟨hpg,hl1,hl64⟩:=zag hm
  have hca:cellsAll l=zZ l 0:=by unfold cellsAll;rw[hm];rfl
  rw[hca]
  show ∃n,_
  refine⟨0,ALoop.inv (ι:={i:Nat // i<=l.length}) (fun i=>⟨[(1,.c (.d (.rp [.sl .page l]))),(2,.c (.ptr 1 0 0)),(9,.int l.length),(10,.int i.1)],[(1,.vars [.d (.lit (.func (.yield L) #[] #[]))]),(16,.ghost X.P L (some (zZ l i.1)))],64⟩) (fun i=>l.length-i.1) ⟨0,Nat.zero_le _⟩ ?_ ?_⟩
  ·exact⟨[(_,1),(16,16)],.cons _ _ _ .same (.cons _ _ _ (.c _ _ (.ptr1 _ _ _ _)) (.cons _ _ _ .same (.cons _ _ _ .same .nil))),.old 1 _ _ _ _ rfl rfl (.vars _ _ (.cons _ _ _ _ (.d _) .nil)) (.old 16 16 _ _ _ rfl rfl (.ghost _ _ _) .nil),rfl⟩
  ·rintro⟨i,hi⟩
   have hi:i<=l.length:=hi
   show ABr (decide ((i:Int)<(l.length:Int))) _ _
   refine⟨fun h=>?_,fun h=>?_⟩
   ·have hlt:i<l.length:=by simpa using h
    have hstep:=zcG hlt
    show ACall ..
    refine za (zsI l (i:Int)) rfl ?_
    rw[hstep]
    show ARange _ _ _ _ _ _ _ _
    refine .mk ⟨[(1,.c (.d (.rp [.sl .page l]))),(2,.c (.ptr 1 0 0)),(9,.int l.length),(10,.int (i:Int)),(15,.c (.d (.fn 139 [] [.rp [.sl .page l],.rp [DV.int i]])))],[(1,.vars [.d (.lit (.func (.yield L) #[] #[]))]),(16,.ghost X.P L (some (zH (l.getD i default) (16*((i:Int)+1))++zZ l (i+1))))],96⟩ ?_
     139 [.rp [.sl .page l],.rp [DV.int i]] rfl (zH (l.getD i default) (16*((i:Int)+1))) 16 rfl [(1,17),(16,16)] [(2,.c (.ptr 17 0 0))]
     (fun _=>True) (fun r=>[(17,.vars [.d (.lit (.func (.yield L) #[] #[]))]),(16,.ghost X.P L (some (r++zZ l (i+1))))]) (fun e H=>e = .ret/\H=[(17,.vars [.d (.lit (.func (.yield L) #[] #[]))]),(16,.ghost X.P L none)])
     trivial (.cons _ _ _ (.c _ _ (.ptr _ _ _ _ rfl)) .nil) (.old 17 1 _ _ _ rfl rfl (.vars _ _ (.cons _ _ _ _ (.d _) .nil)) (.old 16 16 _ _ _ rfl rfl (.ghost _ _ _) .nil)) rfl (fun L'=>zpa L' l i hlt hl64 (hpg i hlt)) ?_ (fun _=>⟨rfl,?_⟩) ?_
    ·exact⟨[(1,1),(16,16)],.cons _ _ _ .same (.cons _ _ _ (.c _ _ (.ptr1 _ _ _ _)) (.cons _ _ _ .same (.cons _ _ _ .same (.cons _ _ _ .same .nil)))),.old 1 1 _ _ _ rfl rfl (.vars _ _ (.cons _ _ _ _ (.d _) .nil)) (.old 16 16 _ _ _ rfl rfl (.ghost _ _ _) .nil),rfl⟩
    ·intro pre x r hxs _
     show AYield _ _ _ _ _
     refine .mk 16 x (r++zZ l (i+1)) rfl rfl ?_ ?_
     ·refine zNO (by decide) ?_
      show AEnd _ _/\True
      exact⟨⟨[(17,17),(16,16)],.old 17 17 _ _ _ rfl rfl (.vars _ _ (.cons _ _ _ _ (.d _) .nil)) (.old 16 16 _ _ _ rfl rfl (.ghost _ _ _) .nil),rfl⟩,trivial⟩
     ·refine zYE (by decide) ?_
      show ∃H,_
      exact⟨_,⟨[(17,17),(16,16)],.old 17 17 _ _ _ rfl rfl (.vars _ _ (.cons _ _ _ _ (.d _) .nil)) (.old 16 16 _ _ _ rfl rfl (.ghost _ _ _) .nil),rfl⟩,rfl,rfl⟩
    ·show ARound ..
     exact⟨⟨i+1,hlt⟩,by show l.length-(i+1)<l.length-i;omega,[(1,1),(16,16)],.cons _ _ _ .same (.cons _ _ _ (.c _ _ (.ptr1 _ _ _ _)) (.cons _ _ _ .same (.cons _ _ _ (.int_eq (zP (i:=i) (by unfold zA;omega))) .nil))),.old 1 1 _ _ _ rfl rfl (.vars _ _ (.cons _ _ _ _ (.d _) .nil)) (.old 16 16 _ _ _ rfl rfl (.ghost _ _ _) .nil),rfl⟩
    ·rintro e H ⟨rfl,rfl⟩
     refine⟨rfl,?_⟩
     show ARet ..
     exact zdh rfl (.inr rfl)
   ·have hge:i=l.length:=by simp at h;omega
    show ARet ..
    exact zdh (o:=some (zZ l i)) rfl (.inl (by rw[zdd (by omega)]))
theorem zf5 (p:Page) (a:Int):(zH p a).length<=8:=by
 unfold zH
 split
 ·simp
 ·split
  ·simp only[List.length_map,List.length_range]
   unfold clsN
   repeat (split;omega)
   omega
  ·simp
theorem zmg (l:List Page):∀(k i:Nat),l.length-i=k->(zZ l i).length<=8*k:=by
 intro k
 induction k with
 |zero=>intro i hi;rw[zdd (by omega)];simp
 |succ k ih=>
  intro i hi
  rw[zcG (by omega),List.length_append]
  have:=zf5 (l.getD i default) (16*((i:Int)+1))
  have:=ih (i+1) (by omega)
  omega
theorem zb0 (l:List Page):(cellsAll l).length<=512:=by
 unfold cellsAll
 by_cases h:zao l=true
 ·rw[if_pos h]
  have:=zmg l (l.length) 0 (by omega)
  have:=(zag h).2.2
  omega
 ·rw[if_neg h];simp
def cellStarts (l:List Page):List Int:=(cellsAll l).map (·.1)
theorem ziF {α:Type} {xs pre r:List α} (h:xs=pre++r):xs.take (xs.length-r.length)=pre:=by subst h;simp
theorem zjw (l:List Page):Spec X 28 [] [.c (.d (.sl .page l))] (Ret [(0,.data .int (cellStarts l))] (.c (.own 0))):=by
 refine zGO X_ok Tryz.f28 fun hb hH=>⟨rfl,?_⟩
 show ACall ..
 refine za (zqp l) rfl ?_
 have hlen:=zb0 l
 obtain⟨St,hSt⟩:∃St:List (Int×Int)->zh,St=fun r=>[(16,.vars [.own 1]),(1,.data .int (((cellsAll l).take ((cellsAll l).length-r.length)).map (·.1)))]:=⟨_,rfl⟩
 have hS0:St (cellsAll l)=[(16,.vars [.own 1]),(1,.data .int ([]:List Int))]:=by rw[hSt];simp;rfl
 have hS1:St []=[(16,.vars [.own 1]),(1,.data .int (cellStarts l))]:=by rw[hSt];unfold cellStarts;simp;rfl
 show ARange _ _ _ _ _ _ _ _
 refine .mk ⟨[(3,.c (.ptr 1 0 0)),(6,.c (.d (.fn 107 [] [.rp [.sl .page l]])))],[(1,.vars [.d DV.nilsl])],160⟩ ?_ 107 [.rp [.sl .page l]] rfl (cellsAll l) 7 rfl [(1,16)] [(3,.c (.ptr 16 0 0))]
  (fun _=>True) St (fun _ _=>False) trivial (.cons _ _ _ (.c _ _ (.ptr _ _ _ _ rfl)) .nil) ?_ ?_ (fun L=>zmx L l) ?_ (fun _=>?_) (fun e H h=>h.elim)
 ·exact⟨[(_,1)],.cons _ _ _ (.c _ _ (.ptr1 _ _ _ _)) (.cons _ _ _ .same .nil),.old 1 _ _ _ _ rfl rfl (.vars _ _ (.cons _ _ _ _ (.d _) .nil)) .nil,rfl⟩
 ·rw[hS0]
  exact .old 16 1 _ _ _ rfl rfl (.vars _ _ (.cons _ _ _ _ (.nilown 1 .int rfl rfl) .nil)) (.new 1 .int _ rfl .nil)
 ·rw[hS0];rfl
 ·intro pre x r hxs _
  have h1:(cellsAll l).take ((cellsAll l).length-(x::r).length)=pre:=ziF hxs
  have h2:(cellsAll l).take ((cellsAll l).length-r.length)=pre++[x]:=ziF (by rw[hxs];simp)
  have hpre:pre.length<=512:=by rw[hxs]at hlen;simp at hlen;omega
  rw[hSt]
  simp only[h1,h2]
  show AOb ((pre.map (·.1)).length+1<=zi) _
  refine⟨by rw[List.length_map];unfold zi;omega,?_⟩
  show AEnd _ _/\True
  refine⟨⟨[(_,1),(16,16)],.old 16 16 _ _ _ rfl rfl (.vars _ _ (.cons _ _ _ _ (.own1 _ _) .nil)) (.old 1 _ _ _ _ rfl rfl (.data_eq ?_) .nil),rfl⟩,trivial⟩
  exact(by simp:(pre.map (fun y:Int×Int=>y.1):List Int)++[x.1]=(pre++[x]).map (fun y=>y.1))
 ·rw[hS1]
  refine⟨rfl,?_⟩
  show ARet ..
  exact⟨[(_,0)],[(0,.data .int (cellStarts l))],[.c (.own 0)],.cons _ _ _ _ (.c _ _ (.own1 _ _)) .nil,.old 0 _ _ _ _ rfl rfl (.data_eq rfl) .nil,rfl,rfl,rfl⟩
def zvz (o:Option (Int×Int)):TV:=match o with
 |some x=>.tup [.agg [.d (DV.int x.1),.d (DV.int x.2)],.bo true]
 |none=>.tup [.agg [.d (DV.int 0),.d (DV.int 0)],.bo false]
theorem zqA (l:List Page) (g:Nat) (a:Int) (P:Int×Int->Bool) (hP:∀x:Int×Int,Spec X g [] [.int a,.agg [.d (DV.int x.1),.d (DV.int x.2)]] (Ret [] (.bo (P x)))) :
  Spec X 79 [] [.c (.d (.sl .page l)),.c (.d (.fn g [DV.int a] []))] (Ret [] (zvz ((cellsAll l).find? P))):=by
 refine zGO X_ok Tryz.f79 fun hb hH=>⟨rfl,?_⟩
 show ACall ..
 refine za (zqp l) rfl ?_
 show ARange _ _ _ _ _ _ _ _
 refine .mk ⟨[(3,.c (.ptr 1 0 0)),(4,.c (.ptr 2 0 0)),(5,.c (.ptr 3 0 0)),(8,.c (.d (.fn 107 [] [.rp [.sl .page l]])))],[(1,.vars [.d (.fn g [DV.int a] [])]),(2,.vars [.d (DV.int 0),.d (DV.int 0)]),(3,.vars [.d (DV.bo false)])],256⟩ ?_ 107 [.rp [.sl .page l]] rfl (cellsAll l) 9 rfl
  [(1,16),(2,17),(3,18)] [(3,.c (.ptr 16 0 0)),(4,.c (.ptr 17 0 0)),(5,.c (.ptr 18 0 0))]
  (fun r=>∃pre,cellsAll l=pre++r/\∀y∈pre,P y=false) (fun _=>[(16,.vars [.d (.fn g [DV.int a] [])]),(17,.vars [.d (DV.int 0),.d (DV.int 0)]),(18,.vars [.d (DV.bo false)])])
  (fun e H=>e = .ret/\∃x,(cellsAll l).find? P=some x/\H=[(16,.vars [.d (.fn g [DV.int a] [])]),(17,.vars [.d (DV.int x.1),.d (DV.int x.2)]),(18,.vars [.d (DV.bo true)])])
  ⟨[],rfl,fun y hy=>by cases hy⟩ (.cons _ _ _ (.c _ _ (.ptr _ _ _ _ rfl)) (.cons _ _ _ (.c _ _ (.ptr _ _ _ _ rfl)) (.cons _ _ _ (.c _ _ (.ptr _ _ _ _ rfl)) .nil)))
  (.old 16 1 _ _ _ rfl rfl (.vars _ _ (.cons _ _ _ _ (.d _) .nil)) (.old 17 2 _ _ _ rfl rfl (.vars _ _ (.cons _ _ _ _ (.d _) (.cons _ _ _ _ (.d _) .nil))) (.old 18 3 _ _ _ rfl rfl (.vars _ _ (.cons _ _ _ _ (.d _) .nil)) .nil))) rfl (fun L=>zmx L l) ?_ (fun hI=>⟨rfl,?_⟩) ?_
 ·exact⟨[(32,1),(64,2),(96,3)],.cons _ _ _ (.c _ _ (.ptr1 _ _ _ _)) (.cons _ _ _ (.c _ _ (.ptr _ _ _ _ rfl)) (.cons _ _ _ (.c _ _ (.ptr _ _ _ _ rfl)) (.cons _ _ _ .same .nil))),.old 1 _ _ _ _ rfl rfl (.vars _ _ (.cons _ _ _ _ (.d _) .nil)) (.old 2 _ _ _ _ rfl rfl (.vars _ _ (.cons _ _ _ _ (.d _) (.cons _ _ _ _ (.d _) .nil))) (.old 3 _ _ _ _ rfl rfl (.vars _ _ (.cons _ _ _ _ (.d _) .nil)) .nil)),rfl⟩
 ·intro pre x r hxs hI
  obtain⟨pre',he,hf⟩:=hI
  have hpp:pre' = pre:=List.append_cancel_right (he.symm.trans hxs)
  subst hpp
  show ACall ..
  refine za (hP x) rfl ?_
  show ABr (P x) _ _
  refine⟨fun h=>?_,fun h=>?_⟩
  ·show ∃H,_
   refine⟨_,⟨[(16,16),(17,17),(18,18)],.old 16 16 _ _ _ rfl rfl (.vars _ _ (.cons _ _ _ _ (.d _) .nil)) (.old 17 17 _ _ _ rfl rfl (.vars _ _ (.cons _ _ _ _ (.d _) (.cons _ _ _ _ (.d _) .nil))) (.old 18 18 _ _ _ rfl rfl (.vars _ _ (.cons _ _ _ _ (.d _) .nil)) .nil)),rfl⟩,rfl,x,?_,rfl⟩
   rw[he,List.find?_append,List.find?_eq_none.2 (fun y hy=>by simp[hf y hy])]
   simp[List.find?,h]
  ·show AEnd _ _/\_
   refine⟨⟨[(16,16),(17,17),(18,18)],.old 16 16 _ _ _ rfl rfl (.vars _ _ (.cons _ _ _ _ (.d _) .nil)) (.old 17 17 _ _ _ rfl rfl (.vars _ _ (.cons _ _ _ _ (.d _) (.cons _ _ _ _ (.d _) .nil))) (.old 18 18 _ _ _ rfl rfl (.vars _ _ (.cons _ _ _ _ (.d _) .nil)) .nil)),rfl⟩,pre'++[x],by rw[he];simp,fun y hy=>?_⟩
   rcases List.mem_append.1 hy with hy|hy
   ·exact hf y hy
   ·rw[List.mem_singleton.1 hy];exact h
 ·obtain⟨pre,he,hf⟩:=hI
  rw[List.append_nil]at he
  have hn:(cellsAll l).find? P=none:=List.find?_eq_none.2 (fun y hy=>by simp[hf y (he▸hy)])
  rw[hn]
  show ARet ..
  exact zg rfl ⟨rfl,rfl⟩
 ·rintro e H ⟨rfl,x,hx,rfl⟩
  refine⟨rfl,?_⟩
  rw[hx]
  show ARet ..
  exact zg rfl ⟨rfl,rfl⟩
theorem zhg (a:Int) (x:Int×Int):Spec X 80 [] [.int a,.agg [.d (DV.int x.1),.d (DV.int x.2)]] (Ret [] (.bo (decide (a=x.1)))):=by
 refine zGO X_ok Tryz.f80 fun hb hH=>⟨rfl,?_⟩
 show ARet ..
 exact zo rfl ⟨rfl,rfl⟩
def zgR (l:List Page) (a:Int):Option (Int×Int):=(cellsAll l).find? fun x=>decide (a=x.1)
def ze (l:List Page) (a:Int):Int:=match zgR l a with|some x=>x.2|none=>0
theorem zkt {l:List Page} {g:Nat} {a:Int} {P:Int×Int->Bool} (hP:∀x:Int×Int,Spec X g [] [.int a,.agg [.d (DV.int x.1),.d (DV.int x.2)]] (Ret [] (.bo (P x)))) {o:Option (Int×Int)} (h:(cellsAll l).find? P=o) :
  Spec X 79 [] [.c (.d (.sl .page l)),.c (.d (.fn g [DV.int a] []))] (Ret [] (zvz o)):=by
 subst h
 exact zqA l g a P hP
theorem zfa (l:List Page) (a:Int):Spec X 38 [] [.c (.d (.sl .page l)),.int a] (Ret [] (.int (ze l a))):=by
 refine zGO X_ok Tryz.f38 fun hb hH=>⟨rfl,?_⟩
 unfold ze zgR
 cases h:(cellsAll l).find? fun x=>decide (a=x.1) with
 |none=>
  show ACall ..
  refine za (zkt (zhg a) h) rfl ?_
  show ARet ..
  exact zg rfl ⟨rfl,rfl⟩
 |some x=>
  show ACall ..
  refine za (zkt (zhg a) h) rfl ?_
  show ARet ..
  exact zg rfl ⟨rfl,rfl⟩
end Go.Abs
namespace Go.Abs
theorem zh8 {c:Int} (h:0<=c/\c<=2):(clsW c=2/\clsN c=8)\/(clsW c=4/\clsN c=4)\/(clsW c=8/\clsN c=2):=by
 unfold clsW clsN
 by_cases h0:c=0
 ·simp[h0]
 ·by_cases h1:c=1
  ·simp[h1]
  ·have h2:c=2:=by omega
   simp[h2]
theorem zgt {p:Page} {a:Int} {x:Int×Int} (hp:zbu p) (h:x∈zH p a) :
  (p.kind=1/\x.2=clsW p.arg/\∃k:Nat,(k:Int)<clsN p.arg/\x.1=a+k*clsW p.arg)\/(p.kind=2/\x=(a,p.arg*16)):=by
 unfold zH at h
 split at h
 ·rename_i hk
  right
  exact⟨hk,List.mem_singleton.1 h⟩
 ·split at h
  ·rename_i hk
   left
   obtain⟨k,hk',rfl⟩:=List.mem_map.1 h
   rw[List.mem_range]at hk'
   exact⟨hk,rfl,k,by omega,rfl⟩
  ·cases h
theorem zhp {l:List Page} {i:Nat} {x:Int×Int} (h:x∈zZ l i):∃j,i<=j/\j<l.length/\x∈zH (l.getD j default) (16*((j:Int)+1)):=by
 unfold zZ at h
 obtain⟨j,hj,hx⟩:=List.mem_flatMap.1 h
 obtain⟨k,hk,e⟩:=List.mem_iff_getElem.1 hj
 simp at e hk
 subst e
 exact⟨i+k,by omega,by omega,hx⟩
theorem zmd {l:List Page} {i j:Nat} {x:Int×Int} (h1:i<=j) (h2:j<l.length) (hx:x∈zH (l.getD j default) (16*((j:Int)+1))):x∈zZ l i:=by
 unfold zZ
 refine List.mem_flatMap.2 ⟨j,?_,hx⟩
 refine List.mem_iff_getElem.2 ⟨j-i,by simp;omega,?_⟩
 simp;omega
structure CellOf (l:List Page) (x:Int×Int) (i:Nat):Prop where
 lt:i<l.length
 mem:x∈zH (l.getD i default) (16*((i:Int)+1))
 lo:16*((i:Int)+1)<=x.1
 hi:x.1<16*((i:Int)+2)
 pos:0<x.2
 div:x.1 / 16-1=i
 kind:((l.getD i default).kind=1/\0<=(l.getD i default).arg/\(l.getD i default).arg<=2/\x.1+x.2<=16*((i:Int)+2)/\x.2=clsW (l.getD i default).arg)\/((l.getD i default).kind=2/\1<=(l.getD i default).arg/\(l.getD i default).arg<=4/\x.1=16*((i:Int)+1)/\x.2=(l.getD i default).arg*16)
theorem zc2 {l:List Page} {x:Int×Int} {i:Nat} (hi:i<l.length) (hp:zbu (l.getD i default)) (hx:x∈zH (l.getD i default) (16*((i:Int)+1))):CellOf l x i:=by
 have key:16*((i:Int)+1)<=x.1/\x.1<16*((i:Int)+2)/\0<x.2/\(((l.getD i default).kind=1/\0<=(l.getD i default).arg/\(l.getD i default).arg<=2/\x.1+x.2<=16*((i:Int)+2)/\x.2=clsW (l.getD i default).arg)\/((l.getD i default).kind=2/\1<=(l.getD i default).arg/\(l.getD i default).arg<=4/\x.1=16*((i:Int)+1)/\x.2=(l.getD i default).arg*16)):=by
  rcases zgt hp hx with⟨hk,h2,k,hkn,h1⟩|⟨hk,rfl⟩
  ·have ha:=hp.1 hk
   rcases zh8 ha with⟨hw,hn⟩|⟨hw,hn⟩|⟨hw,hn⟩<;>rw[hw]at h2 h1<;>rw[hn]at hkn <;>
    exact⟨by omega,by omega,by omega,.inl ⟨hk,ha.1,ha.2,by omega,by rw[hw];exact h2⟩⟩
  ·have ha:=hp.2 hk
   exact⟨Int.le_refl _,by show 16*((i:Int)+1)<_;omega,by show 0<(l.getD i default).arg*16;omega,.inr ⟨hk,ha.1,ha.2,rfl,rfl⟩⟩
 obtain⟨h1,h2,h3,h4⟩:=key
 exact⟨hi,hx,h1,h2,h3,by omega,h4⟩
theorem zac {l:List Page} {x:Int×Int} (h:x∈cellsAll l):zao l=true/\∃i,CellOf l x i:=by
 unfold cellsAll at h
 split at h
 ·rename_i hm
  obtain⟨i,_,hi,hx⟩:=zhp h
  exact⟨hm,i,zc2 hi ((zag hm).1 i hi) hx⟩
 ·cases h
theorem zlO {p:Page} {a:Int} (hp:zbu p):(zH p a).Pairwise (fun x y=>x.1+x.2<=y.1):=by
 unfold zH
 split
 ·exact List.pairwise_singleton _ _
 ·split
  ·rename_i hk
   rw[List.pairwise_map]
   refine List.Pairwise.imp ?_ (List.pairwise_lt_range)
   intro i j hij
   have ha:=hp.1 hk
   rcases zh8 ha with⟨hw,hn⟩|⟨hw,hn⟩|⟨hw,hn⟩<;>rw[hw]<;>simp<;>omega
  ·exact List.Pairwise.nil
theorem zeY {l:List Page} (hp:∀i,i<l.length->zbu (l.getD i default)):∀(n i:Nat),l.length-i=n->(zZ l i).Pairwise (fun x y=>x.1<y.1)
 |0,i,h=>by rw[zdd (by omega)];exact List.Pairwise.nil
 |n+1,i,h=>by
  have hi:i<l.length:=by omega
  rw[zcG hi,List.pairwise_append]
  refine⟨?_,zeY hp n (i+1) (by omega),?_⟩
  ·refine List.Pairwise.imp_of_mem ?_ (zlO (hp i hi))
   intro x y hx _ h
   have:=(zc2 hi (hp i hi) hx).pos
   omega
  ·intro x hx y hy
   obtain⟨j,hj1,hj2,hy'⟩:=zhp hy
   have h1:=(zc2 hi (hp i hi) hx).hi
   have h2:=(zc2 hj2 (hp j hj2) hy').lo
   omega
theorem zfK (l:List Page):(cellsAll l).Pairwise (fun x y=>x.1<y.1):=by
 unfold cellsAll
 split
 ·rename_i hm
  exact zeY (zag hm).1 _ 0 rfl
 ·exact List.Pairwise.nil
theorem zc3 (l:List Page):(cellStarts l).Pairwise (· < ·):=by
 unfold cellStarts
 rw[List.pairwise_map]
 exact zfK l
theorem zqi {l:List Page} {x:Int×Int} (h:x∈cellsAll l):zgR l x.1=some x:=by
 have hs:=zfK l
 unfold zgR
 generalize cellsAll l=cs at h hs
 induction cs with
 |nil=>cases h
 |cons y r ih=>
  rw[List.pairwise_cons]at hs
  rcases List.mem_cons.1 h with rfl|h
  ·simp[List.find?]
  ·have:=hs.1 x h
   have hne:¬x.1=y.1:=by omega
   simp[List.find?,hne]
   exact ih h hs.2
theorem zby {l:List Page} {x:Int×Int} (h:x∈cellsAll l):ze l x.1=x.2:=by unfold ze;rw[zqi h]
theorem zq {l:List Page} {a:Int} (h:ze l a≠0):(a,ze l a)∈cellsAll l:=by
 unfold ze at h ⊢
 cases hc:zgR l a with
 |none=>rw[hc]at h;exact absurd rfl h
 |some x=>
  unfold zgR at hc
  have h1:=List.mem_of_find?_eq_some hc
  have h2:a=x.1:=by simpa using List.find?_some hc
  rw[h2]
  exact h1
theorem zn {l:List Page} {a:Int}:a∈cellStarts l↔ze l a≠0:=by
 constructor
 ·intro h
  obtain⟨x,hx,rfl⟩:=List.mem_map.1 h
  rw[zby hx]
  obtain⟨_,i,hi⟩:=zac hx
  have:=hi.pos
  omega
 ·intro h
  exact List.mem_map.2 ⟨_,zq h,rfl⟩
theorem zc7 (l:List Page) (a:Int):0<=ze l a:=by
 by_cases h:ze l a=0
 ·omega
 ·obtain⟨_,i,hi⟩:=zac (zq h)
  have:=hi.pos
  simp at this
  omega
open Go.Proofs Go.Proofs.YtlankjlnnimdoaaGreatDoor
set_option maxRecDepth 8000
abbrev zcS (cs:List DV):List TV:=cs.map fun x=>.c (.d x)
theorem zjx (h:zh):∀cs:List DV,(zcS cs).map (zdp h)=zcS cs
 |[]=>rfl
 |x::r=>by show _::_=_;rw[zjx h r];rfl
theorem zks {g:Nat} {x:Int} {cs:List DV} {h:zh} {base:Nat} {k:TV->zh->Prop} {b:Bool} (hp:Spec X g [] (.int x::zcS cs) (Ret [] (.bo b))) (hk:k (.bo b) []) :
  ACall X g (.int x::zcS cs) h base k:=by
 refine za (r:=.bo b) ?_ (by simp[zcu,zea]) hk
 show Spec X g [] (.int x::(zcS cs).map (zdp h)) _
 rw[zjx]
 exact hp
def zep (p:Int->Bool):List Int->Option Nat
 |[]=>none
 |x::r=>bif p x then some 0 else (zep p r).map (·+1)
def zl3 (o:Option Nat):Int:=match o with|some i=>i|none=>-1
theorem zjc {p:Int->Bool}:∀ {l:List Int},(∀x∈l,p x=false)->zep p l=none
 |[],_=>rfl
 |x::r,h=>by simp[zep,h x (by simp),zjc (l:=r) fun y hy=>h y (by simp[hy])]
theorem zjd {p:Int->Bool}:∀ {l:List Int} {i:Nat},i<l.length->(∀j,j<i->p (at0 l j)=false)->p (at0 l i)=true->zep p l=some i
 |[],i,h,_,_=>by simp at h
 |x::r,0,_,_,h=>by
  have h:p x=true:=h
  simp[zep,h]
 |x::r,i+1,h,hj,hi=>by
  have h0:p x=false:=hj 0 (by omega)
  have:=zjd (l:=r) (i:=i) (by simpa using h) (fun j hj'=>hj (j+1) (by omega)) hi
  simp[zep,h0,this]
theorem zfX (l:List Int) (g:Nat) (cs:List DV) (p:Int->Bool) (hp:∀x∈l,Spec X g [] (.int x::zcS cs) (Ret [] (.bo (p x)))) :
  Spec X 61 [] [.c (.d (.sl .int l)),.c (.d (.fn g [] cs))] (Ret [] (.int (zl3 (zep p l)))):=by
 refine zGO X_ok Tryz.f61 fun hb _=>⟨rfl,?_⟩
 have hla:l.length<=zA:=(hb (.c (.d (.sl .int l))) (by simp)).1
 unfold zA at hla
 show ∃n,_
 refine⟨0,ALoop.inv (ι:={i:Nat // i<=l.length/\∀j,j<i->p (at0 l j)=false}) (fun i=>⟨[(0,.c (.d (.sl .int l))),(1,.c (.d (.fn g [] cs))),(7,.int l.length),(8,.int i.1)],[],32⟩) (fun i=>l.length-i.1) ⟨0,Nat.zero_le _,fun j hj=>absurd hj (by omega)⟩ ?_ ?_⟩
 ·exact⟨[],.cons _ _ _ .same (.cons _ _ _ .same (.cons _ _ _ .same (.cons _ _ _ .same .nil))),.nil,rfl⟩
 ·rintro⟨i,hi,hn⟩
  show ABr (decide ((i:Int)<(l.length:Int))) _ _
  refine⟨fun h=>?_,fun h=>?_⟩
  ·have hlt:i<l.length:=by simpa using h
   show AOb ((0:Int)<=(i:Int)/\(i:Int)<(l.length:Int)) _
   refine⟨by omega,?_⟩
   have hg:l.getD i default=at0 l i:=rfl
   have hmem:l.getD i default∈l:=by
    rw[List.getD_eq_getElem?_getD,List.getElem?_eq_getElem hlt]
    exact List.getElem_mem hlt
   refine zks (hp (l.getD i default) hmem) ?_
   show ABr (p (l.getD i default)) _ _
   refine⟨fun h=>?_,fun h=>?_⟩
   ·show ARet ..
    refine zaA (x:=(i:Int)) ?_ ⟨rfl,rfl⟩
    rw[zjd hlt hn h]
    rfl
   ·show ARound ..
    exact⟨⟨i+1,hlt,fun j hj=>by
     by_cases e:j=i
     ·subst e;exact h
     ·exact hn j (by omega)⟩,by show l.length-(i+1)<l.length-i;omega,[],.cons _ _ _ .same (.cons _ _ _ .same (.cons _ _ _ .same (.cons _ _ _ (.int_eq (zP (i:=i) (by unfold zA;omega))) .nil))),.nil,rfl⟩
  ·have hge:i=l.length:=by simp at h;omega
   show ARet ..
   refine zaA (x:=-1) ?_ ⟨rfl,rfl⟩
   rw[zjc fun x hx=>?_]
   ·rfl
   ·obtain⟨j,hj,e⟩:=List.mem_iff_getElem.1 hx
    have:=hn j (by omega)
    rw[show at0 l j=x from by unfold at0;rw[List.getD_eq_getElem?_getD,List.getElem?_eq_getElem hj,e];rfl]at this
    exact this
theorem zjL (p:Int->Bool):∀l:List Int,(zep p l).isSome=l.any p
 |[]=>rfl
 |x::r=>by
  have ih:=zjL p r
  simp only[zep,List.any_cons]
  cases p x with
  |true=>rfl
  |false=>rw[Bool.false_or,←ih];simp
theorem zn4 (p:Int->Bool) (l:List Int):decide (zl3 (zep p l)>=0)=l.any p:=by
 rw[←zjL]
 cases zep p l with
 |none=>rfl
 |some i=>simp[zl3]
theorem zif (l:List Int) (g:Nat) (cs:List DV) (p:Int->Bool) (hp:∀x∈l,Spec X g [] (.int x::zcS cs) (Ret [] (.bo (p x)))) :
  Spec X 103 [] [.c (.d (.sl .int l)),.c (.d (.fn g [] cs))] (Ret [] (.bo (l.any p))):=by
 refine zGO X_ok Tryz.f103 fun hb _=>⟨rfl,?_⟩
 show ACall ..
 refine za (zfX l g cs p hp) rfl ?_
 show ARet ..
 refine zo (x:=decide (zl3 (zep p l)>=0)) (zn4 p l) ⟨rfl,rfl⟩
theorem zqE (g:Nat) (cs:List DV) (x:Int) (b:Bool) (hp:Spec X g [] (.int x::zcS cs) (Ret [] (.bo b))) :
  Spec X 104 [] (.int x::zcS [.rp [.fn g [] cs]]) (Ret [] (.bo !b)):=by
 refine zGO X_ok Tryz.f104 fun hb _=>⟨rfl,?_⟩
 show ACall ..
 refine zks hp ?_
 show ARet ..
 refine zo (x:=!b) rfl ⟨rfl,rfl⟩
theorem zd7 (l:List Int) (g:Nat) (cs:List DV) (p:Int->Bool) (hp:∀x∈l,Spec X g [] (.int x::zcS cs) (Ret [] (.bo (p x)))) :
  Spec X 59 [] [.c (.d (.sl .int l)),.c (.d (.fn g [] cs))] (Ret [] (.bo (l.all p))):=by
 refine zGO X_ok Tryz.f59 fun hb _=>⟨rfl,?_⟩
 show ACall ..
 refine za (zif l 104 [.rp [.fn g [] cs]] (fun x=>!p x) (fun x hx=>zqE g cs x (p x) (hp x hx))) rfl ?_
 show ARet ..
 refine zo (x:=!l.any fun x=>!p x) ?_ ⟨rfl,rfl⟩
 rw[←List.not_all_eq_any_not,Bool.not_not]
theorem zoU {p:Int->Bool}:∀ {l:List Int} {i:Nat},zep p l=some i->i<l.length/\(∀j,j<i->p (at0 l j)=false)/\p (at0 l i)=true
 |[],i,h=>by cases h
 |x::r,i,h=>by
  by_cases hx:p x=true
  ·simp[zep,hx]at h
   subst h
   exact⟨by simp,fun j hj=>absurd hj (by omega),hx⟩
  ·have hx:p x=false:=Bool.eq_false_iff.2 hx
   simp only[zep,hx,cond_false]at h
   cases hr:zep p r with
   |none=>rw[hr]at h;cases h
   |some k=>
    rw[hr]at h
    cases h
    obtain⟨h1,h2,h3⟩:=zoU hr
    refine⟨by simp;omega,fun j hj=>?_,h3⟩
    cases j with
    |zero=>exact hx
    |succ j=>exact h2 j (Nat.lt_of_succ_lt_succ hj)
def DelI (l:List Int) (p:Int->Bool) (i j:Nat) (cur:List Int):Prop:=
 cur.length=l.length/\i<j/\j<=l.length/\cur.take i=(l.take j).filter (fun x=>!p x)/\cur.drop j=l.drop j
theorem zdf {l:List Int} {j:Nat} (h:j<l.length):l.take (j+1)=l.take j++[at0 l j]:=by
 unfold at0
 rw[List.take_succ,List.getD_eq_getElem?_getD,List.getElem?_eq_getElem h]
 rfl
theorem zk9 {l:List Int} {j:Nat} (h:j<l.length):l.drop j=at0 l j::l.drop (j+1):=by
 unfold at0
 rw[List.getD_eq_getElem?_getD,List.drop_eq_getElem_cons h,List.getElem?_eq_getElem h]
 rfl
theorem DelI.start {l:List Int} {p:Int->Bool} {i:Nat} (h1:i<l.length) (h2:∀j,j<i->p (at0 l j)=false) (h3:p (at0 l i)=true):DelI l p i (i+1) l:=by
 refine⟨rfl,by omega,h1,?_,rfl⟩
 rw[zdf h1,List.filter_append]
 have e1:(l.take i).filter (fun x=>!p x)=l.take i:=by
  rw[List.filter_eq_self]
  intro x hx
  obtain⟨j,hj,e⟩:=List.mem_iff_getElem.1 hx
  have hj' : j<i:=by simp at hj;omega
  have:=h2 j hj'
  rw[show at0 l j=x from by unfold at0;rw[List.getD_eq_getElem?_getD,List.getElem?_eq_getElem (by omega)];rw[List.getElem_take]at e;rw[e];rfl]at this
  rw[this];rfl
 rw[e1]
 simp[h3]
theorem DelI.keep {l:List Int} {p:Int->Bool} {i j:Nat} {cur:List Int} (h:DelI l p i j cur) (hj:j<l.length) (hv:cur.getD j default=at0 l j) (hp:p (at0 l j)=false):DelI l p (i+1) (j+1) (cur.set i (cur.getD j default)):=by
 obtain⟨h1,h2,h3,h4,h5⟩:=h
 refine⟨by simp[h1],by omega,hj,?_,?_⟩
 ·have hl:(cur.take i).length=i:=by simp;omega
  rw[zdf hj,List.filter_append,←h4,hv,List.take_set,zdf (l:=cur) (j:=i) (by omega),List.set_append_right _ _ (by omega),hl,Nat.sub_self]
  simp[hp]
 ·rw[List.drop_set_of_lt (by omega),←List.drop_drop,h5,List.drop_drop]
theorem DelI.drop {l:List Int} {p:Int->Bool} {i j:Nat} {cur:List Int} (h:DelI l p i j cur) (hj:j<l.length) (hp:p (at0 l j)=true):DelI l p i (j+1) cur:=by
 obtain⟨h1,h2,h3,h4,h5⟩:=h
 refine⟨h1,by omega,hj,?_,?_⟩
 ·rw[zdf hj,List.filter_append,←h4]
  simp[hp]
 ·rw[←List.drop_drop,h5,List.drop_drop]
def zer (n:Nat):List Int:=List.replicate n 0
theorem LeT.view_eq {ρ:List (Nat×Nat)} {h h' : zh} {b c o n m:Nat} (h1:za2 ρ b=some c) (e:n=m):LeT ρ h h' (.c (.view b o n)) (.c (.view c o m)):=by subst e;exact .c _ _ (.view _ _ _ _ h1)
theorem zkg (l:List Int) (g:Nat) (cs:List DV) (p:Int->Bool) (hp:∀x∈l,Spec X g [] (.int x::zcS cs) (Ret [] (.bo (p x)))) :
  Spec X 27 [(16,.data .int l)] [.c (.own 16),.c (.d (.fn g [] cs))] (fun H r=>∃z:List Int,H=[(16,.data .int (((l.filter fun x=>!p x)++z:List Int)))]/\r = .c (.view 16 0 (l.filter fun x=>!p x).length)):=by
 refine zGO X_ok Tryz.f27 fun hb hH=>⟨rfl,?_⟩
 have hla:l.length<=zA:=hH 16 .int l rfl
 unfold zA at hla
 show ACall ..
 refine za (zfX l g cs p hp) rfl ?_
 show ABr (zl3 (zep p l)==-1) _ _
 refine⟨fun h=>?_,fun h=>?_⟩
 ·have hnone:l.filter (fun x=>!p x)=l:=by
   rw[List.filter_eq_self]
   intro x hx
   by_cases hpx:p x=true
   ·exfalso
    have h1:=zn4 p l
    rw[List.any_eq_true.2 ⟨x,hx,hpx⟩]at h1
    have h1:=of_decide_eq_true h1
    have h:zl3 (zep p l) = -1:=by simpa using h
    omega
   ·simp[hpx]
  rw[hnone]
  show ARet ..
  exact⟨[(16,16)],[(16,.data .int l)],[.c (.view 16 0 l.length)],.cons _ _ _ _ (.c _ _ (.whole 16 16 l.length (by simp[za2]) rfl)) .nil,.old 16 16 _ _ _ rfl rfl (.data _ _) .nil,rfl,[],by simp,rfl⟩
 ·have hn:∃i0,zep p l=some i0:=by
   cases hi:zep p l with
   |none=>rw[hi]at h;exact absurd h (by decide)
   |some i0=>exact⟨i0,rfl⟩
  obtain⟨i0,hi0⟩:=hn
  obtain⟨hil,hbe,hat⟩:=zoU hi0
  rw[hi0]
  show ∃n,_
  refine⟨0,ALoop.inv (ι:={q:Nat×Nat×List Int // DelI l p q.1 q.2.1 q.2.2}) (fun q=>⟨[(0,.c (.own 16)),(1,.c (.d (.fn g [] cs))),(5,.int q.1.1),(6,.int q.1.2.1)],[(16,.data .int q.1.2.2)],32⟩) (fun q=>l.length-q.1.2.1) ⟨(i0,i0+1,l),DelI.start hil hbe hat⟩ ?_ ?_⟩
  ·exact⟨[(16,16)],.cons _ _ _ (.c _ _ (.own1 _ _)) (.cons _ _ _ .same (.cons _ _ _ .same (.cons _ _ _ (.int_eq (zP (i:=i0) (by unfold zA;omega))) .nil))),.old 16 16 _ _ _ rfl rfl (.data _ _) .nil,rfl⟩
  ·rintro⟨⟨i,j,cur⟩,hq⟩
   obtain⟨hcl,hij,hjl,htk,hdr⟩:=(show DelI l p i j cur from hq)
   show ABr (decide ((j:Int)<(cur.length:Int))) _ _
   refine⟨fun h=>?_,fun h=>?_⟩
   ·have hlt:j<cur.length:=by simpa using h
    show AOb ((0:Int)<=(j:Int)/\(j:Int)<(cur.length:Int)) _
    refine⟨by omega,?_⟩
    show AOb ((j:Int).toNat<cur.length) _
    refine⟨by omega,?_⟩
    have hv:cur.getD j default=at0 l j:=by
     have e1:=zk9 (l:=cur) hlt
     have e2:=zk9 (l:=l) (j:=j) (by omega)
     rw[hdr,e2]at e1
     injection e1 with e1 _
     exact e1.symm
    have hmem:cur.getD j default∈l:=by
     rw[hv]
     unfold at0
     rw[List.getD_eq_getElem?_getD,List.getElem?_eq_getElem (by omega)]
     exact List.getElem_mem _
    refine zks (hp (cur.getD j default) hmem) ?_
    show ABr (!p (cur.getD j default)) _ _
    refine⟨fun h=>?_,fun h=>?_⟩
    ·show AOb ((0:Int)<=(i:Int)/\(i:Int)<(cur.length:Int)) _
     refine⟨by omega,?_⟩
     show AOb ((i:Int).toNat<cur.length) _
     refine⟨by omega,?_⟩
     show ARound ..
     refine⟨⟨(i+1,j+1,cur.set i (cur.getD j default)),?_⟩,by show l.length-(j+1)<l.length-j;omega,[(16,16)],.cons _ _ _ (.c _ _ (.own1 _ _)) (.cons _ _ _ .same (.cons _ _ _ (.int_eq (zP (i:=i) (by unfold zA;omega))) (.cons _ _ _ (.int_eq (zP (i:=j) (by unfold zA;omega))) .nil))),.old 16 16 _ _ _ rfl rfl (.data _ _) .nil,rfl⟩
     exact DelI.keep hq (by omega) hv (by rw[hv]at h;simpa using h)
    ·show ARound ..
     exact⟨⟨(i,j+1,cur),DelI.drop hq (by omega) (by rw[hv]at h;simpa using h)⟩,by show l.length-(j+1)<l.length-j;omega,[(16,16)],.cons _ _ _ (.c _ _ (.own1 _ _)) (.cons _ _ _ .same (.cons _ _ _ .same (.cons _ _ _ (.int_eq (zP (i:=j) (by unfold zA;omega))) .nil))),.old 16 16 _ _ _ rfl rfl (.data _ _) .nil,rfl⟩
   ·have hge:j=l.length:=by simp at h;omega
    subst hge
    show AOb ((0:Int)<=(i:Int)/\(i:Int)<=(cur.length:Int)) _
    refine⟨by omega,?_⟩
    show AOb ((0:Int)<=(i:Int)/\(i:Int)<=((zM cur (i:Int).toNat (List.replicate ((cur.length:Int)-(i:Int)).toNat 0):List Int).length:Int)) _
    refine⟨by simp[zM];omega,?_⟩
    show ARet ..
    have ef:l.filter (fun x=>!p x)=cur.take i:=by rw[htk,List.take_length]
    have el:(cur.take i).length=i:=by simp;omega
    rw[ef,el]
    exact⟨[(16,16)],[(16,.data .int (zM cur i (zer (cur.length-i))))],[.c (.view 16 0 i)],.cons _ _ _ _ (.view_eq (n:=((i:Int)-0).toNat) (by simp[za2]) (by omega)) .nil,.old 16 16 _ _ _ rfl rfl (.data_eq (k:=.int) (l:=zM cur (i:Int).toNat (zer (((cur.length:Int)-(i:Int)).toNat))) (by
     rw[show((cur.length:Int)-(i:Int)).toNat=cur.length-i from by omega,Int.toNat_natCast])) .nil,rfl,zer (cur.length-i)++cur.drop (i+(zer (cur.length-i)).length),by rw[←List.append_assoc];rfl,rfl⟩
def pgN (n:Int):Bool:=decide (1<=n/\n<=64)
def zba (w:List Int):Bool:=decide (w.length % 16=0/\1<=w.length / 16/\w.length / 16<=64)
theorem zsN (n d:Nat):((n:Int).tmod (d:Int))=((n % d:Nat):Int):=by rw[Int.tmod_eq_emod_of_nonneg (by omega)];rfl
theorem zs3 (n d:Nat) (h:n<=zA):tdv (n:Int) (d:Int)=((n / d:Nat):Int):=by
 unfold zA at h
 unfold tdv
 rw[Int.tdiv_eq_ediv_of_nonneg (by omega)]
 have e:((n:Int) / (d:Int))=((n / d:Nat):Int):=rfl
 have:=Nat.div_le_self n d
 rw[e]
 generalize n / d=q at *
 rw[zu (by omega) (by omega)]
theorem zlh (n:Int):Spec X 53 [] [.int n] (Ret [] (.bo (pgN n))):=by
 refine zGO X_ok Tryz.f53 fun hb hH=>⟨rfl,?_⟩
 show ARet ..
 refine zo (x:=bif decide (n>=1) then decide (n<=64) else false) ?_ ⟨rfl,rfl⟩
 unfold pgN
 by_cases h:1<=n<;>simp[h]
theorem zfc (w:List Int):Spec X 98 [] [.c (.d (.sl .int w))] (Ret [] (.bo (zba w))):=by
 refine zGO X_ok Tryz.f98 fun hb hH=>⟨rfl,?_⟩
 have hla:w.length<=zA:=(hb (.c (.d (.sl .int w))) (by simp)).1
 have er:=zsN w.length 16
 have eq:=zs3 w.length 16 hla
 show AOb ..
 refine⟨by decide,?_⟩
 show AOb ..
 refine⟨by simp,?_⟩
 show AIf ((((w.length:Int).tmod 16)==0)=true/\True) _ _
 refine⟨fun h=>?_,fun h=>?_⟩
 ·show ACall ..
  refine za (zlh (tdv (w.length:Int) (16:Nat))) rfl ?_
  show ARet ..
  refine zo (x:=pgN (tdv (w.length:Int) (16:Nat))) ?_ ⟨rfl,rfl⟩
  rw[eq]
  unfold pgN zba
  have h:(((w.length:Int).tmod (16:Nat))==0)=true:=h.1
  rw[er]at h
  simp at h
  simp only[decide_eq_decide]
  omega
 ·have h:(((w.length:Int).tmod 16)==0)=false:=Bool.eq_false_iff.2 fun h'=>h ⟨h',trivial⟩
  show AOb ((((w.length:Int).tmod 16)==0)=false) _
  refine⟨h,?_⟩
  show ARet ..
  refine zo (x:=false) ?_ ⟨rfl,rfl⟩
  have h:(((w.length:Int).tmod (16:Nat))==0)=false:=h
  rw[er]at h
  simp at h
  unfold zba
  symm
  apply decide_eq_false
  omega
def zwy (n:Int):List Int:=if pgN n=true then zer (n*16).toNat else []
def newE (n:Int):Int:=if pgN n=true then 0 else 1
theorem ztu (n:Int):Spec X 25 [] [.int n] (Ret [] (.tup [.c (.d (.sl .int (zwy n))),.int (newE n)])):=by
 refine zGO X_ok Tryz.f25 fun hb hH=>⟨rfl,?_⟩
 unfold zwy newE
 show ACall ..
 refine za (zlh n) rfl ?_
 show ABr (!pgN n) _ _
 refine⟨fun h=>?_,fun h=>?_⟩
 ·have h:pgN n=false:=by simpa using h
  rw[h]
  show ARet ..
  exact⟨[],[],_,.cons _ _ _ _ (.nilsl rfl) (.cons _ _ _ _ (.int_eq rfl) .nil),.nil,rfl,rfl,rfl⟩
 ·have h:pgN n=true:=by simpa using h
  rw[h]
  have h':=of_decide_eq_true h
  have ew:IntKind.i64.wrap (n*16)=n*16:=zu (by omega) (by omega)
  show AOb ((0:Int)<=IntKind.i64.wrap (n*16)/\IntKind.i64.wrap (n*16)<=IntKind.i64.wrap (n*16)/\IntKind.i64.wrap (n*16)<=(zi:Int)) _
  rw[ew]
  refine⟨by unfold zi;omega,?_⟩
  show ARet ..
  exact⟨[],[],[.c (.d (.sl .int (zer (n*16).toNat))),.int 0],.cons _ _ _ _ (.frz (k:=.int) (l:=zer (n*16).toNat) rfl rfl) (.cons _ _ _ _ (.int_eq rfl) .nil),.nil,rfl,rfl,rfl⟩
theorem LeT.view_eq2 {ρ:List (Nat×Nat)} {h h' : zh} {b c o p n m:Nat} (h1:za2 ρ b=some c) (e:o=p) (e' : n=m):LeT ρ h h' (.c (.view b o n)) (.c (.view c p m)):=by subst e e';exact .c _ _ (.view _ _ _ _ h1)
theorem zes (l:List Int) (h:l.length<=zi) (hne:l≠[]):Spec X 63 [] [.c (.d (.sl .int l))] (Ret [(0,.data .int l)] (.c (.own 0))):=by
 refine zGO X_ok Tryz.f63 fun hb _=>⟨rfl,?_⟩
 intro b (hnil:b=true->l=[])
 show ABr ..
 refine⟨fun hb=>absurd (hnil hb) hne,fun hb=>?_⟩
 show AOb (0+l.length<=zi) _
 refine⟨by omega,?_⟩
 show ARet ..
 exact⟨[(_,0)],[(0,.data .int l)],[.c (.own 0)],.cons _ _ _ _ (.c _ _ (.own1 _ _)) .nil,.old 0 _ _ _ _ rfl rfl (.data_eq rfl) .nil,rfl,rfl,rfl⟩
theorem zvB (w:List Int) (a:Int) (hw:zba w=true) (ha:16<=a/\a<16+w.length):Spec X 236 [(16,.data .int w)] [.c (.own 16),.int a,.int 1] (fun H r=>H=[(16,.data .int w)]/\r = .tup [.c (.view 16 (a-16).toNat 1),.int 0]):=by
 refine zGO X_ok Tryz.f236 fun hb hH=>⟨rfl,?_⟩
 show ACall ..
 refine za (zfc w) rfl ?_
 rw[hw]
 show ABr (!true) _ _
 refine zNO (by decide) ?_
 refine zNO (by decide) ?_
 have h1:w.length<=1024:=by have:=of_decide_eq_true hw;omega
 have e1:IntKind.i64.wrap (a-16)=a-16:=zu (by omega) (by omega)
 have e2:IntKind.i64.wrap ((w.length:Int)-(a-16))=w.length-(a-16):=zu (by omega) (by omega)
 show ABr (bif decide ((1:Int)>0) then (bif (bif decide (a<16) then true else decide (IntKind.i64.wrap (a-16)>=(w.length:Int))) then true else decide ((1:Int)>IntKind.i64.wrap ((w.length:Int)-IntKind.i64.wrap (a-16)))) else false) _ _
 rw[e1,e2]
 refine⟨fun h=>?_,fun _=>?_⟩
 ·exfalso
  have g1:decide (a<16)=false:=decide_eq_false (by omega)
  have g2:decide (a-16>=(w.length:Int))=false:=decide_eq_false (by omega)
  have g3:decide ((1:Int)>(w.length:Int)-(a-16))=false:=decide_eq_false (by omega)
  rw[g1,g2,g3]at h
  exact absurd h (by decide)
 ·refine zNO (by decide) ?_
  show AOb ((0:Int)<=IntKind.i64.wrap (a-16)/\IntKind.i64.wrap (a-16)<=(w.length:Int)) _
  rw[e1]
  refine⟨by omega,?_⟩
  show AOb ((0:Int)<=1/\(1:Int)<=1/\(1:Int)<=((((w.length:Int)-(a-16)).toNat:Nat):Int)) _
  refine⟨by omega,?_⟩
  show ARet ..
  exact⟨[(16,16)],[(16,.data .int w)],[.c (.view 16 (a-16).toNat 1),.int 0],.cons _ _ _ _ (.view_eq2 (o:=(a-16).toNat+0) (n:=1) (by simp[za2]) rfl rfl) (.cons _ _ _ _ .same .nil),.old 16 16 _ _ _ rfl rfl (.data_eq rfl) .nil,rfl,rfl,rfl⟩
theorem ze8 (w:List Int) (a v:Int) (hw:zba w=true) (ha:16<=a/\a<16+w.length):Spec X 228 [] [.c (.d (.sl .int w)),.int a,.int v] (Ret [] (.tup [.c (.d (.sl .int (w.set (a-16).toNat v))),.int 0])):=by
 refine zGO X_ok Tryz.f228 fun hb hH=>⟨rfl,?_⟩
 have h1:16<=w.length/\w.length<=1024:=by have:=of_decide_eq_true hw;omega
 show ACall ..
 refine .mk _ (zes w (by unfold zi;omega) (by intro e;subst e;simp at h1)) fun H r ⟨eH,er⟩ _ _=>⟨.inl rfl,?_⟩
 subst eH er
 refine .hand [(_,16)] [(16,.data .int w)] [.c (.own 16),.int a,.int 1] _ (.cons _ _ _ _ (.c _ _ (.own1 _ _)) (.cons _ _ _ _ .same (.cons _ _ _ _ .same .nil))) (.old 16 _ _ _ _ rfl rfl (.data_eq rfl) .nil) rfl (zvB w a hw ha) ?_
 rintro H r ⟨rfl,rfl⟩ _ _
 refine⟨rfl,.inl rfl,?_⟩
 refine zNO (by decide) ?_
 show AOb ((0:Int)<=0/\(0:Int)<((1:Nat):Int)) _
 refine⟨by omega,?_⟩
 show AOb ((a-16).toNat+0<w.length) _
 refine⟨by omega,?_⟩
 show ARet ..
 exact⟨[],[],[.c (.d (.sl .int (w.set (a-16).toNat v))),.int 0],.cons _ _ _ _ (.frz (k:=.int) (l:=w.set ((a-16).toNat+0) v) rfl rfl) (.cons _ _ _ _ .same .nil),.nil,rfl,rfl,rfl⟩
end Go.Abs
namespace Go.Proofs
open Go.Shelf
shelf_lay Lays.n189 Nm 189 at Tryz as Tryz.lays189
end Go.Proofs
namespace Go.Abs
open Go.Proofs Go.Proofs.YtlankjlnnimdoaaGreatDoor
set_option maxRecDepth 8000
theorem zvh {l:List Int} {i:Nat} (h:i<l.length):at0 l i=l[i]:=by
 unfold at0
 rw[List.getD_eq_getElem?_getD,List.getElem?_eq_getElem h]
 rfl
theorem zom (l:List Int):zjD (l.mergeSort fun x y=>decide (x<=y)) 0 (l.mergeSort fun x y=>decide (x<=y)).length:=by
 intro i j _ hij hj
 have hp:=List.pairwise_mergeSort (le:=fun x y:Int=>decide (x<=y)) (fun a b c h1 h2=>by simp only[decide_eq_true_eq]at *;omega) (fun a b=>by simp only[Bool.or_eq_true,decide_eq_true_eq];omega) l
 have:=List.pairwise_iff_getElem.1 hp i j (by omega) hj hij
 rw[zvh (by omega),zvh hj]
 simpa using this
theorem ziM:∀l:List Int,List.flatMap EK.int.enc l=l.map DV.int
 |[]=>rfl
 |x::r=>by
  show EK.int.enc x++List.flatMap EK.int.enc r=_
  rw[ziM r];rfl
theorem ztE (l:List Int):Spec X 90 (zcL l) [.c (.own 16)] (zlD l 0 l.length):=by
 by_cases h12:l.length<=12
 ·exact zgd l h12
 refine⟨(zgd [] (by decide)).1,fun N S w vs hN hH hb hg ha=>?_⟩
 obtain⟨hm,hc⟩:=hH 16 (.data .int l) rfl
 have hm:List.length (α:=Int) l<=zA:=hm
 rcases hc with⟨_,e⟩|⟨r,cs,T,hn,hes,hrl,hcap,hw,hsz,hrep⟩
 ·subst e;exact absurd (by decide) h12
 have hrl:r.len=List.length (α:=Int) l:=hrl
 have hcap:List.length (α:=Int) l<=r.cap:=hcap
 have hsz:r.cap*1<=cs.size:=hsz
 have hv:vs=[.slice (some ⟨r.blk,0,none⟩) l.length r.cap]:=by
  match vs,ha.1 with
  |[v],_=>
   have h1:=ha.2 0 _ v rfl rfl
   cases h1 with
   |c _ _ h2=>
    cases h2 with
    |own0 _ _ h3=>rw[hn]at h3;cases h3
    |ownD _ _ h3=>rw[hn]at h3;cases h3
    |own _ r' h3=>
     rw[hn]at h3
     cases h3
     rw[zaR (k:=.int) hes,hrl]
 subst hv
 have hmax:l.length<4611686018427387904:=by unfold zA at hm;omega
 have hcell:∀j (hj:j<l.length),cs[j]? = some (.int .i64 l[j]):=by
  intro j hj
  have e1:(l.flatMap EK.int.enc)[j]? = some (DV.int l[j]):=by
   rw[ziM,List.getElem?_map,List.getElem?_eq_getElem hj];rfl
  have hj2:j<cs.size:=by omega
  have e2:(cs.toList.take (l.length*1))[j]? = some cs[j]:=by
   rw[List.getElem?_take,if_pos (by omega),Array.getElem?_toList,Array.getElem?_eq_getElem hj2]
  have h3:=hrep.2 j _ _ e1 e2
  rw[Array.getElem?_eq_getElem hj2]
  generalize cs[j]=v at h3
  cases h3
  rfl
 have hHolds:Go.Sort.Holds (Value.int .i64) w r.blk 0 l.toArray:=by
  intro j hj
  have hj:j<l.length:=by simpa using hj
  refine⟨?_,?_⟩
  ·unfold World.cell?
   rw[hw]
   show cs[0+j]? = _
   rw[Nat.zero_add,hcell j hj]
   simp[hj]
  ·unfold World.frozen?
   rw[hw]
   simp
 refine Calls.mono (Any.slices_Sort_int Tryz.lays189 r.blk 0 r.cap l w hHolds (hN.lt 16 r hn).1 hmax) ?_
 rintro e w' ⟨rfl,n,os,rfl⟩
 have hsrt:=zom l
 have hlen:(l.mergeSort fun x y=>decide (x<=y)).length=l.length:=List.length_mergeSort l
 have hperm:=List.mergeSort_perm l fun x y=>decide (x<=y)
 generalize (l.mergeSort fun x y=>decide (x<=y))=l' at hsrt hlen hperm ⊢
 obtain⟨w2,hw2⟩:∃w2,w2=Go.Sort.grow (Go.Sort.putRow (Value.int .i64) (Go.Sort.ahead w n) r.blk 0 l'.toArray) os:=⟨_,rfl⟩
 have hheap:w2.heap=(w.heap.modify r.blk (Go.Sort.onCells (Go.Sort.putCells (Value.int .i64) 0 l'.toArray)))++os:=by rw[hw2];rfl
 have hblt:=(hN.lt 16 r hn).1
 have hsize:w.heap.size<=w2.heap.size:=by rw[hheap];simp
 have hold:∀k,k<w.heap.size->k≠r.blk->w2.heap[k]? = w.heap[k]?:=by
  intro k hk hne
  rw[hheap,Array.getElem?_append_left (by simpa using hk),Array.getElem?_modify,if_neg (fun h=>hne h.symm)]
 have hnew:w2.heap[r.blk]? = some (.cells (Go.Sort.putCells (Value.int .i64) 0 l'.toArray cs) T (0,0)):=by
  rw[hheap,Array.getElem?_append_left (by simpa using hblt),Array.getElem?_modify,if_pos rfl,hw]
  rfl
 have hext:WExt (zR N) w w2:=by
  refine⟨by rw[hw2];rfl,by rw[hw2];rfl,by rw[hw2];rfl,hsize,fun k hk ho=>hold k hk ?_⟩
  rintro rfl
  exact ho (zd1 hn)
 rw[←hw2]
 refine⟨_,N,zcL l',.tup [],rfl,⟨rfl,l',rfl,⟨hlen,fun i hi=>?_,hperm⟩,hlen▸hsrt⟩,⟨hN.inj',fun b k h=>?_,fun k h=>?_⟩,?_,hb,.tup [] #[] rfl (fun i x v hx=>by simp at hx),hext,fun _ _ h=>h,Fx.refl N⟩
 ·rw[List.getElem?_eq_none (by omega),List.getElem?_eq_none (by omega)]
 ·exact⟨Nat.lt_of_lt_of_le (hN.lt' b k h).1 hsize,(hN.lt' b k h).2⟩
 ·exact Nat.lt_of_lt_of_le (hN.sm k h) hsize
 ·intro b x hx
  have hbx:b=16/\x = .data .int l':=by
   unfold zcL zj at hx
   cases hb:Nat.beq 16 b with
   |true=>
    have:=Nat.eq_of_beq_eq_true hb
    simp[zj,hb]at hx
    exact⟨this.symm,hx.symm⟩
   |false=>simp[zj,hb]at hx
  obtain⟨rfl,rfl⟩:=hbx
  refine⟨by show l'.length<=zA;omega,.inr ⟨r,_,T,hn,hes,by show r.len=l'.length;omega,by show l'.length<=r.cap;omega,hnew,?_,?_,?_⟩⟩
  ·show r.cap*1<=_
   unfold Go.Sort.putCells
   simp
   omega
  ·show(List.flatMap EK.int.enc l').length=_
   rw[ziM]
   unfold Go.Sort.putCells
   have:EK.int.size=1:=rfl
   simp[this]
   show l'.length=min l'.length cs.size
   omega
  ·intro i x v hx hv
   have hi:i<l'.length:=by
    have h1:=(List.getElem?_eq_some_iff.1 hx).1
    rw[ziM,List.length_map]at h1
    exact h1
   rw[show l'.flatMap EK.int.enc=l'.map DV.int from ziM l',List.getElem?_map,List.getElem?_eq_getElem hi]at hx
   have hi2:i<cs.size:=by omega
   have hv' : (Go.Sort.putCells (Value.int .i64) 0 l'.toArray cs)[i]? = some (.int .i64 l'[i]):=by
    unfold Go.Sort.putCells
    rw[Array.getElem?_mapIdx,Array.getElem?_eq_getElem hi2]
    simp[hi]
   rw[List.getElem?_take]at hv
   split at hv
   ·rw[Array.getElem?_toList,hv']at hv
    cases hv
    cases hx
    exact .lit _ rfl
   ·cases hv
end Go.Abs
