/- Walks and plain laws: WArena1, WSortK, WLists1, WRAll. -/
import Derived.Test.YtlankjlnnimdoaaGreatDoorAbsBase1
import Derived.Test.YtlankjlnnimdoaaGreatDoorPa
import Derived.Shelf.Sort.Plain
import Derived.Shelf.Lay
set_option linter.all false
namespace Go.Abs
open Go.Proofs Go.Proofs.YtlankjlnnimdoaaGreatDoor
set_option maxRecDepth 8000
abbrev zdi (cs:List DV):List TV:=cs.map fun x=>.c (.d x)
theorem zj4 (h:zg):∀cs:List DV,(zdi cs).map (zdF h)=zdi cs
 |[]=>rfl
 |x::r=>by show _::_=_;rw[zj4 h r];rfl
theorem zk8 {g:Nat} {x:Int} {cs:List DV} {h:zg} {base:Nat} {k:TV->zg->Prop} {b:Bool} (hp:Spec X g [] (.int x::zdi cs) (Ret [] (.bo b))) (hk:k (.bo b) []) :
  ACall X g (.int x::zdi cs) h base k:=by
 refine za (r:=.bo b) ?_ (by simp[zcH,zeG]) hk
 show Spec X g [] (.int x::(zdi cs).map (zdF h)) _
 rw[zj4]
 exact hp
def zeI (p:Int->Bool):List Int->Option Nat
 |[]=>none
 |x::r=>bif p x then some 0 else (zeI p r).map (·+1)
def zmL (o:Option Nat):Int:=match o with|some i=>i|none=>-1
theorem zjP {p:Int->Bool}:∀ {l:List Int},(∀x∈l,p x=false)->zeI p l=none
 |[],_=>rfl
 |x::r,h=>by simp[zeI,h x (by simp),zjP (l:=r) fun y hy=>h y (by simp[hy])]
theorem zj6 {p:Int->Bool}:∀ {l:List Int} {i:Nat},i<l.length->(∀j,j<i->p (at0 l j)=false)->p (at0 l i)=true->zeI p l=some i
 |[],i,h,_,_=>by simp at h
 |x::r,0,_,_,h=>by
  have h:p x=true:=h
  simp[zeI,h]
 |x::r,i+1,h,hj,hi=>by
  have h0:p x=false:=hj 0 (by omega)
  have:=zj6 (l:=r) (i:=i) (by simpa using h) (fun j hj'=>hj (j+1) (by omega)) hi
  simp[zeI,h0,this]
theorem zgP (l:List Int) (g:Nat) (cs:List DV) (p:Int->Bool) (hp:∀x∈l,Spec X g [] (.int x::zdi cs) (Ret [] (.bo (p x)))) :
  Spec X 61 [] [.c (.d (.sl .int l)),.c (.d (.fn g [] cs))] (Ret [] (.int (zmL (zeI p l)))):=by
 refine zGO X_ok Tryz.f61 fun hb _=>⟨rfl,?_⟩
 have hla:l.length<=zE:=(hb (.c (.d (.sl .int l))) (by simp)).1
 unfold zE at hla
 show ∃n,_
 refine⟨0,ALoop.inv (ι:={i:Nat // i<=l.length/\∀j,j<i->p (at0 l j)=false}) (fun i=>⟨[(0,.c (.d (.sl .int l))),(1,.c (.d (.fn g [] cs))),(7,.int l.length),(8,.int i.1)],[],32⟩) (fun i=>l.length-i.1) ⟨0,Nat.zero_le _,fun j hj=>absurd hj (by omega)⟩ ?_ ?_⟩
 ·exact⟨[],.cons _ _ _ .same (.cons _ _ _ .same (.cons _ _ _ .same (.cons _ _ _ .same .nil))),.nil,rfl⟩
 ·rintro⟨i,hi,hn⟩
  show ABr (decide ((i:Int)<(l.length:Int))) _ _
  refine⟨fun h=>?_,fun h=>?_⟩
  ·have hlt:i<l.length:=by simpa using h
   show AOb ((0:Int)<=(i:Int)/\(i:Int)<(l.length:Int)) _
   refine⟨by omega,?_⟩
   have hg:l.getD i default=at0 l i:=rfl
   have hmem:l.getD i default∈l:=by
    rw[List.getD_eq_getElem?_getD,List.getElem?_eq_getElem hlt]
    exact List.getElem_mem hlt
   refine zk8 (hp (l.getD i default) hmem) ?_
   show ABr (p (l.getD i default)) _ _
   refine⟨fun h=>?_,fun h=>?_⟩
   ·show ARet ..
    refine zaZ (x:=(i:Int)) ?_ ⟨rfl,rfl⟩
    rw[zj6 hlt hn h]
    rfl
   ·show ARound ..
    exact⟨⟨i+1,hlt,fun j hj=>by
     by_cases e:j=i
     ·subst e;exact h
     ·exact hn j (by omega)⟩,by show l.length-(i+1)<l.length-i;omega,[],.cons _ _ _ .same (.cons _ _ _ .same (.cons _ _ _ .same (.cons _ _ _ (.int_eq (zad (i:=i) (by unfold zE;omega))) .nil))),.nil,rfl⟩
  ·have hge:i=l.length:=by simp at h;omega
   show ARet ..
   refine zaZ (x:=-1) ?_ ⟨rfl,rfl⟩
   rw[zjP fun x hx=>?_]
   ·rfl
   ·obtain⟨j,hj,e⟩:=List.mem_iff_getElem.1 hx
    have:=hn j (by omega)
    rw[show at0 l j=x from by unfold at0;rw[List.getD_eq_getElem?_getD,List.getElem?_eq_getElem hj,e];rfl]at this
    exact this
theorem zkG (p:Int->Bool):∀l:List Int,(zeI p l).isSome=l.any p
 |[]=>rfl
 |x::r=>by
  have ih:=zkG p r
  simp only[zeI,List.any_cons]
  cases p x with
  |true=>rfl
  |false=>rw[Bool.false_or,←ih];simp
theorem zoh (p:Int->Bool) (l:List Int):decide (zmL (zeI p l)>=0)=l.any p:=by
 rw[←zkG]
 cases zeI p l with
 |none=>rfl
 |some i=>simp[zmL]
theorem zjo (l:List Int) (g:Nat) (cs:List DV) (p:Int->Bool) (hp:∀x∈l,Spec X g [] (.int x::zdi cs) (Ret [] (.bo (p x)))) :
  Spec X 103 [] [.c (.d (.sl .int l)),.c (.d (.fn g [] cs))] (Ret [] (.bo (l.any p))):=by
 refine zGO X_ok Tryz.f103 fun hb _=>⟨rfl,?_⟩
 show ACall ..
 refine za (zgP l g cs p hp) rfl ?_
 show ARet ..
 refine zt (x:=decide (zmL (zeI p l)>=0)) (zoh p l) ⟨rfl,rfl⟩
theorem zqo (g:Nat) (cs:List DV) (x:Int) (b:Bool) (hp:Spec X g [] (.int x::zdi cs) (Ret [] (.bo b))) :
  Spec X 104 [] (.int x::zdi [.rp [.fn g [] cs]]) (Ret [] (.bo !b)):=by
 refine zGO X_ok Tryz.f104 fun hb _=>⟨rfl,?_⟩
 show ACall ..
 refine zk8 hp ?_
 show ARet ..
 refine zt (x:=!b) rfl ⟨rfl,rfl⟩
theorem zei (l:List Int) (g:Nat) (cs:List DV) (p:Int->Bool) (hp:∀x∈l,Spec X g [] (.int x::zdi cs) (Ret [] (.bo (p x)))) :
  Spec X 59 [] [.c (.d (.sl .int l)),.c (.d (.fn g [] cs))] (Ret [] (.bo (l.all p))):=by
 refine zGO X_ok Tryz.f59 fun hb _=>⟨rfl,?_⟩
 show ACall ..
 refine za (zjo l 104 [.rp [.fn g [] cs]] (fun x=>!p x) (fun x hx=>zqo g cs x (p x) (hp x hx))) rfl ?_
 show ARet ..
 refine zt (x:=!l.any fun x=>!p x) ?_ ⟨rfl,rfl⟩
 rw[←List.not_all_eq_any_not,Bool.not_not]
theorem zqG {p:Int->Bool}:∀ {l:List Int} {i:Nat},zeI p l=some i->i<l.length/\(∀j,j<i->p (at0 l j)=false)/\p (at0 l i)=true
 |[],i,h=>by cases h
 |x::r,i,h=>by
  by_cases hx:p x=true
  ·simp[zeI,hx]at h
   subst h
   exact⟨by simp,fun j hj=>absurd hj (by omega),hx⟩
  ·have hx:p x=false:=Bool.eq_false_iff.2 hx
   simp only[zeI,hx,cond_false]at h
   cases hr:zeI p r with
   |none=>rw[hr]at h;cases h
   |some k=>
    rw[hr]at h
    cases h
    obtain⟨h1,h2,h3⟩:=zqG hr
    refine⟨by simp;omega,fun j hj=>?_,h3⟩
    cases j with
    |zero=>exact hx
    |succ j=>exact h2 j (Nat.lt_of_succ_lt_succ hj)
def DelI (l:List Int) (p:Int->Bool) (i j:Nat) (cur:List Int):Prop:=
 cur.length=l.length/\i<j/\j<=l.length/\cur.take i=(l.take j).filter (fun x=>!p x)/\cur.drop j=l.drop j
theorem zfi {l:List Int} {j:Nat} (h:j<l.length):l.take (j+1)=l.take j++[at0 l j]:=by
 unfold at0
 rw[List.take_succ,List.getD_eq_getElem?_getD,List.getElem?_eq_getElem h]
 rfl
theorem zlT {l:List Int} {j:Nat} (h:j<l.length):l.drop j=at0 l j::l.drop (j+1):=by
 unfold at0
 rw[List.getD_eq_getElem?_getD,List.drop_eq_getElem_cons h,List.getElem?_eq_getElem h]
 rfl
theorem DelI.start {l:List Int} {p:Int->Bool} {i:Nat} (h1:i<l.length) (h2:∀j,j<i->p (at0 l j)=false) (h3:p (at0 l i)=true):DelI l p i (i+1) l:=by
 refine⟨rfl,by omega,h1,?_,rfl⟩
 rw[zfi h1,List.filter_append]
 have e1:(l.take i).filter (fun x=>!p x)=l.take i:=by
  rw[List.filter_eq_self]
  intro x hx
  obtain⟨j,hj,e⟩:=List.mem_iff_getElem.1 hx
  have hj' : j<i:=by simp at hj;omega
  have:=h2 j hj'
  rw[show at0 l j=x from by unfold at0;rw[List.getD_eq_getElem?_getD,List.getElem?_eq_getElem (by omega)];rw[List.getElem_take]at e;rw[e];rfl]at this
  rw[this];rfl
 rw[e1]
 simp[h3]
theorem DelI.keep {l:List Int} {p:Int->Bool} {i j:Nat} {cur:List Int} (h:DelI l p i j cur) (hj:j<l.length) (hv:cur.getD j default=at0 l j) (hp:p (at0 l j)=false):DelI l p (i+1) (j+1) (cur.set i (cur.getD j default)):=by
 obtain⟨h1,h2,h3,h4,h5⟩:=h
 refine⟨by simp[h1],by omega,hj,?_,?_⟩
 ·have hl:(cur.take i).length=i:=by simp;omega
  rw[zfi hj,List.filter_append,←h4,hv,List.take_set,zfi (l:=cur) (j:=i) (by omega),List.set_append_right _ _ (by omega),hl,Nat.sub_self]
  simp[hp]
 ·rw[List.drop_set_of_lt (by omega),←List.drop_drop,h5,List.drop_drop]
theorem DelI.drop {l:List Int} {p:Int->Bool} {i j:Nat} {cur:List Int} (h:DelI l p i j cur) (hj:j<l.length) (hp:p (at0 l j)=true):DelI l p i (j+1) cur:=by
 obtain⟨h1,h2,h3,h4,h5⟩:=h
 refine⟨h1,by omega,hj,?_,?_⟩
 ·rw[zfi hj,List.filter_append,←h4]
  simp[hp]
 ·rw[←List.drop_drop,h5,List.drop_drop]
def zer (n:Nat):List Int:=List.replicate n 0
theorem LeT.view_eq {ρ:List (Nat×Nat)} {h h' : zg} {b c o n m:Nat} (h1:za3 ρ b=some c) (e:n=m):LeT ρ h h' (.c (.view b o n)) (.c (.view c o m)):=by subst e;exact .c _ _ (.view _ _ _ _ h1)
theorem zkZ (l:List Int) (g:Nat) (cs:List DV) (p:Int->Bool) (hp:∀x∈l,Spec X g [] (.int x::zdi cs) (Ret [] (.bo (p x)))) :
  Spec X 27 [(16,.data .int l)] [.c (.own 16),.c (.d (.fn g [] cs))] (fun H r=>∃z:List Int,H=[(16,.data .int (((l.filter fun x=>!p x)++z:List Int)))]/\r = .c (.view 16 0 (l.filter fun x=>!p x).length)):=by
 refine zGO X_ok Tryz.f27 fun hb hH=>⟨rfl,?_⟩
 have hla:l.length<=zE:=hH 16 .int l rfl
 unfold zE at hla
 show ACall ..
 refine za (zgP l g cs p hp) rfl ?_
 show ABr (zmL (zeI p l)==-1) _ _
 refine⟨fun h=>?_,fun h=>?_⟩
 ·have hnone:l.filter (fun x=>!p x)=l:=by
   rw[List.filter_eq_self]
   intro x hx
   by_cases hpx:p x=true
   ·exfalso
    have h1:=zoh p l
    rw[List.any_eq_true.2 ⟨x,hx,hpx⟩]at h1
    have h1:=of_decide_eq_true h1
    have h:zmL (zeI p l) = -1:=by simpa using h
    omega
   ·simp[hpx]
  rw[hnone]
  show ARet ..
  exact⟨[(16,16)],[(16,.data .int l)],[.c (.view 16 0 l.length)],.cons _ _ _ _ (.c _ _ (.whole 16 16 l.length (by simp[za3]) rfl)) .nil,.old 16 16 _ _ _ rfl rfl (.data _ _) .nil,rfl,[],by simp,rfl⟩
 ·have hn:∃i0,zeI p l=some i0:=by
   cases hi:zeI p l with
   |none=>rw[hi]at h;exact absurd h (by decide)
   |some i0=>exact⟨i0,rfl⟩
  obtain⟨i0,hi0⟩:=hn
  obtain⟨hil,hbe,hat⟩:=zqG hi0
  rw[hi0]
  show ∃n,_
  refine⟨0,ALoop.inv (ι:={q:Nat×Nat×List Int // DelI l p q.1 q.2.1 q.2.2}) (fun q=>⟨[(0,.c (.own 16)),(1,.c (.d (.fn g [] cs))),(5,.int q.1.1),(6,.int q.1.2.1)],[(16,.data .int q.1.2.2)],32⟩) (fun q=>l.length-q.1.2.1) ⟨(i0,i0+1,l),DelI.start hil hbe hat⟩ ?_ ?_⟩
  ·exact⟨[(16,16)],.cons _ _ _ (.c _ _ (.own1 _ _)) (.cons _ _ _ .same (.cons _ _ _ .same (.cons _ _ _ (.int_eq (zad (i:=i0) (by unfold zE;omega))) .nil))),.old 16 16 _ _ _ rfl rfl (.data _ _) .nil,rfl⟩
  ·rintro⟨⟨i,j,cur⟩,hq⟩
   obtain⟨hcl,hij,hjl,htk,hdr⟩:=(show DelI l p i j cur from hq)
   show ABr (decide ((j:Int)<(cur.length:Int))) _ _
   refine⟨fun h=>?_,fun h=>?_⟩
   ·have hlt:j<cur.length:=by simpa using h
    show AOb ((0:Int)<=(j:Int)/\(j:Int)<(cur.length:Int)) _
    refine⟨by omega,?_⟩
    show AOb ((j:Int).toNat<cur.length) _
    refine⟨by omega,?_⟩
    have hv:cur.getD j default=at0 l j:=by
     have e1:=zlT (l:=cur) hlt
     have e2:=zlT (l:=l) (j:=j) (by omega)
     rw[hdr,e2]at e1
     injection e1 with e1 _
     exact e1.symm
    have hmem:cur.getD j default∈l:=by
     rw[hv]
     unfold at0
     rw[List.getD_eq_getElem?_getD,List.getElem?_eq_getElem (by omega)]
     exact List.getElem_mem _
    refine zk8 (hp (cur.getD j default) hmem) ?_
    show ABr (!p (cur.getD j default)) _ _
    refine⟨fun h=>?_,fun h=>?_⟩
    ·show AOb ((0:Int)<=(i:Int)/\(i:Int)<(cur.length:Int)) _
     refine⟨by omega,?_⟩
     show AOb ((i:Int).toNat<cur.length) _
     refine⟨by omega,?_⟩
     show ARound ..
     refine⟨⟨(i+1,j+1,cur.set i (cur.getD j default)),?_⟩,by show l.length-(j+1)<l.length-j;omega,[(16,16)],.cons _ _ _ (.c _ _ (.own1 _ _)) (.cons _ _ _ .same (.cons _ _ _ (.int_eq (zad (i:=i) (by unfold zE;omega))) (.cons _ _ _ (.int_eq (zad (i:=j) (by unfold zE;omega))) .nil))),.old 16 16 _ _ _ rfl rfl (.data _ _) .nil,rfl⟩
     exact DelI.keep hq (by omega) hv (by rw[hv]at h;simpa using h)
    ·show ARound ..
     exact⟨⟨(i,j+1,cur),DelI.drop hq (by omega) (by rw[hv]at h;simpa using h)⟩,by show l.length-(j+1)<l.length-j;omega,[(16,16)],.cons _ _ _ (.c _ _ (.own1 _ _)) (.cons _ _ _ .same (.cons _ _ _ .same (.cons _ _ _ (.int_eq (zad (i:=j) (by unfold zE;omega))) .nil))),.old 16 16 _ _ _ rfl rfl (.data _ _) .nil,rfl⟩
   ·have hge:j=l.length:=by simp at h;omega
    subst hge
    show AOb ((0:Int)<=(i:Int)/\(i:Int)<=(cur.length:Int)) _
    refine⟨by omega,?_⟩
    show AOb ((0:Int)<=(i:Int)/\(i:Int)<=((zK cur (i:Int).toNat (List.replicate ((cur.length:Int)-(i:Int)).toNat 0):List Int).length:Int)) _
    refine⟨by simp[zK];omega,?_⟩
    show ARet ..
    have ef:l.filter (fun x=>!p x)=cur.take i:=by rw[htk,List.take_length]
    have el:(cur.take i).length=i:=by simp;omega
    rw[ef,el]
    exact⟨[(16,16)],[(16,.data .int (zK cur i (zer (cur.length-i))))],[.c (.view 16 0 i)],.cons _ _ _ _ (.view_eq (n:=((i:Int)-0).toNat) (by simp[za3]) (by omega)) .nil,.old 16 16 _ _ _ rfl rfl (.data_eq (k:=.int) (l:=zK cur (i:Int).toNat (zer (((cur.length:Int)-(i:Int)).toNat))) (by
     rw[show((cur.length:Int)-(i:Int)).toNat=cur.length-i from by omega,Int.toNat_natCast])) .nil,rfl,zer (cur.length-i)++cur.drop (i+(zer (cur.length-i)).length),by rw[←List.append_assoc];rfl,rfl⟩
def pgN (n:Int):Bool:=decide (1<=n/\n<=64)
def zbo (w:List Int):Bool:=decide (w.length % 16=0/\1<=w.length / 16/\w.length / 16<=64)
theorem zxM (n d:Nat):((n:Int).tmod (d:Int))=((n % d:Nat):Int):=by rw[Int.tmod_eq_emod_of_nonneg (by omega)];rfl
theorem zt0 (n d:Nat) (h:n<=zE):tdv (n:Int) (d:Int)=((n / d:Nat):Int):=by
 unfold zE at h
 unfold tdv
 rw[Int.tdiv_eq_ediv_of_nonneg (by omega)]
 have e:((n:Int) / (d:Int))=((n / d:Nat):Int):=rfl
 have:=Nat.div_le_self n d
 rw[e]
 generalize n / d=q at *
 rw[zB (by omega) (by omega)]
theorem zln (n:Int):Spec X 53 [] [.int n] (Ret [] (.bo (pgN n))):=by
 refine zGO X_ok Tryz.f53 fun hb hH=>⟨rfl,?_⟩
 show ARet ..
 refine zt (x:=bif decide (n>=1) then decide (n<=64) else false) ?_ ⟨rfl,rfl⟩
 unfold pgN
 by_cases h:1<=n<;>simp[h]
theorem zfA (w:List Int):Spec X 98 [] [.c (.d (.sl .int w))] (Ret [] (.bo (zbo w))):=by
 refine zGO X_ok Tryz.f98 fun hb hH=>⟨rfl,?_⟩
 have hla:w.length<=zE:=(hb (.c (.d (.sl .int w))) (by simp)).1
 have er:=zxM w.length 16
 have eq:=zt0 w.length 16 hla
 show AOb ..
 refine⟨by decide,?_⟩
 show AOb ..
 refine⟨by simp,?_⟩
 show AIf ((((w.length:Int).tmod 16)==0)=true/\True) _ _
 refine⟨fun h=>?_,fun h=>?_⟩
 ·show ACall ..
  refine za (zln (tdv (w.length:Int) (16:Nat))) rfl ?_
  show ARet ..
  refine zt (x:=pgN (tdv (w.length:Int) (16:Nat))) ?_ ⟨rfl,rfl⟩
  rw[eq]
  unfold pgN zbo
  have h:(((w.length:Int).tmod (16:Nat))==0)=true:=h.1
  rw[er]at h
  simp at h
  simp only[decide_eq_decide]
  omega
 ·have h:(((w.length:Int).tmod 16)==0)=false:=Bool.eq_false_iff.2 fun h'=>h ⟨h',trivial⟩
  show AOb ((((w.length:Int).tmod 16)==0)=false) _
  refine⟨h,?_⟩
  show ARet ..
  refine zt (x:=false) ?_ ⟨rfl,rfl⟩
  have h:(((w.length:Int).tmod (16:Nat))==0)=false:=h
  rw[er]at h
  simp at h
  unfold zbo
  symm
  apply decide_eq_false
  omega
def zxQ (n:Int):List Int:=if pgN n=true then zer (n*16).toNat else []
def newE (n:Int):Int:=if pgN n=true then 0 else 1
theorem zuA (n:Int):Spec X 25 [] [.int n] (Ret [] (.tup [.c (.d (.sl .int (zxQ n))),.int (newE n)])):=by
 refine zGO X_ok Tryz.f25 fun hb hH=>⟨rfl,?_⟩
 unfold zxQ newE
 show ACall ..
 refine za (zln n) rfl ?_
 show ABr (!pgN n) _ _
 refine⟨fun h=>?_,fun h=>?_⟩
 ·have h:pgN n=false:=by simpa using h
  rw[h]
  show ARet ..
  exact⟨[],[],_,.cons _ _ _ _ (.nilsl rfl) (.cons _ _ _ _ (.int_eq rfl) .nil),.nil,rfl,rfl,rfl⟩
 ·have h:pgN n=true:=by simpa using h
  rw[h]
  have h':=of_decide_eq_true h
  have ew:IntKind.i64.wrap (n*16)=n*16:=zB (by omega) (by omega)
  show AOb ((0:Int)<=IntKind.i64.wrap (n*16)/\IntKind.i64.wrap (n*16)<=IntKind.i64.wrap (n*16)/\IntKind.i64.wrap (n*16)<=(zk:Int)) _
  rw[ew]
  refine⟨by unfold zk;omega,?_⟩
  show ARet ..
  exact⟨[],[],[.c (.d (.sl .int (zer (n*16).toNat))),.int 0],.cons _ _ _ _ (.frz (k:=.int) (l:=zer (n*16).toNat) rfl rfl) (.cons _ _ _ _ (.int_eq rfl) .nil),.nil,rfl,rfl,rfl⟩
theorem LeT.view_eq2 {ρ:List (Nat×Nat)} {h h' : zg} {b c o p n m:Nat} (h1:za3 ρ b=some c) (e:o=p) (e' : n=m):LeT ρ h h' (.c (.view b o n)) (.c (.view c p m)):=by subst e e';exact .c _ _ (.view _ _ _ _ h1)
theorem zeM (l:List Int) (h:l.length<=zk) (hne:l≠[]):Spec X 63 [] [.c (.d (.sl .int l))] (Ret [(0,.data .int l)] (.c (.own 0))):=by
 refine zGO X_ok Tryz.f63 fun hb _=>⟨rfl,?_⟩
 intro b (hnil:b=true->l=[])
 show ABr ..
 refine⟨fun hb=>absurd (hnil hb) hne,fun hb=>?_⟩
 show AOb (0+l.length<=zk) _
 refine⟨by omega,?_⟩
 show ARet ..
 exact⟨[(_,0)],[(0,.data .int l)],[.c (.own 0)],.cons _ _ _ _ (.c _ _ (.own1 _ _)) .nil,.old 0 _ _ _ _ rfl rfl (.data_eq rfl) .nil,rfl,rfl,rfl⟩
theorem zvM (w:List Int) (a:Int) (hw:zbo w=true) (ha:16<=a/\a<16+w.length):Spec X 236 [(16,.data .int w)] [.c (.own 16),.int a,.int 1] (fun H r=>H=[(16,.data .int w)]/\r = .tup [.c (.view 16 (a-16).toNat 1),.int 0]):=by
 refine zGO X_ok Tryz.f236 fun hb hH=>⟨rfl,?_⟩
 show ACall ..
 refine za (zfA w) rfl ?_
 rw[hw]
 show ABr (!true) _ _
 refine zNO (by decide) ?_
 refine zNO (by decide) ?_
 have h1:w.length<=1024:=by have:=of_decide_eq_true hw;omega
 have e1:IntKind.i64.wrap (a-16)=a-16:=zB (by omega) (by omega)
 have e2:IntKind.i64.wrap ((w.length:Int)-(a-16))=w.length-(a-16):=zB (by omega) (by omega)
 show ABr (bif decide ((1:Int)>0) then (bif (bif decide (a<16) then true else decide (IntKind.i64.wrap (a-16)>=(w.length:Int))) then true else decide ((1:Int)>IntKind.i64.wrap ((w.length:Int)-IntKind.i64.wrap (a-16)))) else false) _ _
 rw[e1,e2]
 refine⟨fun h=>?_,fun _=>?_⟩
 ·exfalso
  have g1:decide (a<16)=false:=decide_eq_false (by omega)
  have g2:decide (a-16>=(w.length:Int))=false:=decide_eq_false (by omega)
  have g3:decide ((1:Int)>(w.length:Int)-(a-16))=false:=decide_eq_false (by omega)
  rw[g1,g2,g3]at h
  exact absurd h (by decide)
 ·refine zNO (by decide) ?_
  show AOb ((0:Int)<=IntKind.i64.wrap (a-16)/\IntKind.i64.wrap (a-16)<=(w.length:Int)) _
  rw[e1]
  refine⟨by omega,?_⟩
  show AOb ((0:Int)<=1/\(1:Int)<=1/\(1:Int)<=((((w.length:Int)-(a-16)).toNat:Nat):Int)) _
  refine⟨by omega,?_⟩
  show ARet ..
  exact⟨[(16,16)],[(16,.data .int w)],[.c (.view 16 (a-16).toNat 1),.int 0],.cons _ _ _ _ (.view_eq2 (o:=(a-16).toNat+0) (n:=1) (by simp[za3]) rfl rfl) (.cons _ _ _ _ .same .nil),.old 16 16 _ _ _ rfl rfl (.data_eq rfl) .nil,rfl,rfl,rfl⟩
theorem zfm (w:List Int) (a v:Int) (hw:zbo w=true) (ha:16<=a/\a<16+w.length):Spec X 228 [] [.c (.d (.sl .int w)),.int a,.int v] (Ret [] (.tup [.c (.d (.sl .int (w.set (a-16).toNat v))),.int 0])):=by
 refine zGO X_ok Tryz.f228 fun hb hH=>⟨rfl,?_⟩
 have h1:16<=w.length/\w.length<=1024:=by have:=of_decide_eq_true hw;omega
 show ACall ..
 refine .mk _ (zeM w (by unfold zk;omega) (by intro e;subst e;simp at h1)) fun H r ⟨eH,er⟩ _ _=>⟨.inl rfl,?_⟩
 subst eH er
 refine .hand [(_,16)] [(16,.data .int w)] [.c (.own 16),.int a,.int 1] _ (.cons _ _ _ _ (.c _ _ (.own1 _ _)) (.cons _ _ _ _ .same (.cons _ _ _ _ .same .nil))) (.old 16 _ _ _ _ rfl rfl (.data_eq rfl) .nil) rfl (zvM w a hw ha) ?_
 rintro H r ⟨rfl,rfl⟩ _ _
 refine⟨rfl,.inl rfl,?_⟩
 refine zNO (by decide) ?_
 show AOb ((0:Int)<=0/\(0:Int)<((1:Nat):Int)) _
 refine⟨by omega,?_⟩
 show AOb ((a-16).toNat+0<w.length) _
 refine⟨by omega,?_⟩
 show ARet ..
 exact⟨[],[],[.c (.d (.sl .int (w.set (a-16).toNat v))),.int 0],.cons _ _ _ _ (.frz (k:=.int) (l:=w.set ((a-16).toNat+0) v) rfl rfl) (.cons _ _ _ _ .same .nil),.nil,rfl,rfl,rfl⟩
end Go.Abs
namespace Go.Proofs
open Go.Shelf
shelf_lay Lays.n189 Nm 189 at Tryz as Tryz.lays189
end Go.Proofs
namespace Go.Abs
open Go.Proofs Go.Proofs.YtlankjlnnimdoaaGreatDoor
set_option maxRecDepth 8000
theorem zvO {l:List Int} {i:Nat} (h:i<l.length):at0 l i=l[i]:=by
 unfold at0
 rw[List.getD_eq_getElem?_getD,List.getElem?_eq_getElem h]
 rfl
theorem zoW (l:List Int):zkb (l.mergeSort fun x y=>decide (x<=y)) 0 (l.mergeSort fun x y=>decide (x<=y)).length:=by
 intro i j _ hij hj
 have hp:=List.pairwise_mergeSort (le:=fun x y:Int=>decide (x<=y)) (fun a b c h1 h2=>by simp only[decide_eq_true_eq]at *;omega) (fun a b=>by simp only[Bool.or_eq_true,decide_eq_true_eq];omega) l
 have:=List.pairwise_iff_getElem.1 hp i j (by omega) hj hij
 rw[zvO (by omega),zvO hj]
 simpa using this
theorem zji:∀l:List Int,List.flatMap EK.int.enc l=l.map DV.int
 |[]=>rfl
 |x::r=>by
  show EK.int.enc x++List.flatMap EK.int.enc r=_
  rw[zji r];rfl
theorem zuy (l:List Int):Spec X 90 (zc8 l) [.c (.own 16)] (zlO l 0 l.length):=by
 by_cases h12:l.length<=12
 ·exact zgs l h12
 refine⟨(zgs [] (by decide)).1,fun N S w vs hN hH hb hg ha=>?_⟩
 obtain⟨hm,hc⟩:=hH 16 (.data .int l) rfl
 have hm:List.length (α:=Int) l<=zE:=hm
 rcases hc with⟨_,e⟩|⟨r,cs,T,hn,hes,hrl,hcap,hw,hsz,hrep⟩
 ·subst e;exact absurd (by decide) h12
 have hrl:r.len=List.length (α:=Int) l:=hrl
 have hcap:List.length (α:=Int) l<=r.cap:=hcap
 have hsz:r.cap*1<=cs.size:=hsz
 have hv:vs=[.slice (some ⟨r.blk,0,none⟩) l.length r.cap]:=by
  match vs,ha.1 with
  |[v],_=>
   have h1:=ha.2 0 _ v rfl rfl
   cases h1 with
   |c _ _ h2=>
    cases h2 with
    |own0 _ _ h3=>rw[hn]at h3;cases h3
    |ownD _ _ h3=>rw[hn]at h3;cases h3
    |own _ r' h3=>
     rw[hn]at h3
     cases h3
     rw[zaE (k:=.int) hes,hrl]
 subst hv
 have hmax:l.length<4611686018427387904:=by unfold zE at hm;omega
 have hcell:∀j (hj:j<l.length),cs[j]? = some (.int .i64 l[j]):=by
  intro j hj
  have e1:(l.flatMap EK.int.enc)[j]? = some (DV.int l[j]):=by
   rw[zji,List.getElem?_map,List.getElem?_eq_getElem hj];rfl
  have hj2:j<cs.size:=by omega
  have e2:(cs.toList.take (l.length*1))[j]? = some cs[j]:=by
   rw[List.getElem?_take,if_pos (by omega),Array.getElem?_toList,Array.getElem?_eq_getElem hj2]
  have h3:=hrep.2 j _ _ e1 e2
  rw[Array.getElem?_eq_getElem hj2]
  generalize cs[j]=v at h3
  cases h3
  rfl
 have hHolds:Go.Sort.Holds (Value.int .i64) w r.blk 0 l.toArray:=by
  intro j hj
  have hj:j<l.length:=by simpa using hj
  refine⟨?_,?_⟩
  ·unfold World.cell?
   rw[hw]
   show cs[0+j]? = _
   rw[Nat.zero_add,hcell j hj]
   simp[hj]
  ·unfold World.frozen?
   rw[hw]
   simp
 refine Calls.mono (Any.slices_Sort_int Tryz.lays189 r.blk 0 r.cap l w hHolds (hN.lt 16 r hn).1 hmax) ?_
 rintro e w' ⟨rfl,n,os,rfl⟩
 have hsrt:=zoW l
 have hlen:(l.mergeSort fun x y=>decide (x<=y)).length=l.length:=List.length_mergeSort l
 have hperm:=List.mergeSort_perm l fun x y=>decide (x<=y)
 generalize (l.mergeSort fun x y=>decide (x<=y))=l' at hsrt hlen hperm ⊢
 obtain⟨w2,hw2⟩:∃w2,w2=Go.Sort.grow (Go.Sort.putRow (Value.int .i64) (Go.Sort.ahead w n) r.blk 0 l'.toArray) os:=⟨_,rfl⟩
 have hheap:w2.heap=(w.heap.modify r.blk (Go.Sort.onCells (Go.Sort.putCells (Value.int .i64) 0 l'.toArray)))++os:=by rw[hw2];rfl
 have hblt:=(hN.lt 16 r hn).1
 have hsize:w.heap.size<=w2.heap.size:=by rw[hheap];simp
 have hold:∀k,k<w.heap.size->k≠r.blk->w2.heap[k]? = w.heap[k]?:=by
  intro k hk hne
  rw[hheap,Array.getElem?_append_left (by simpa using hk),Array.getElem?_modify,if_neg (fun h=>hne h.symm)]
 have hnew:w2.heap[r.blk]? = some (.cells (Go.Sort.putCells (Value.int .i64) 0 l'.toArray cs) T (0,0)):=by
  rw[hheap,Array.getElem?_append_left (by simpa using hblt),Array.getElem?_modify,if_pos rfl,hw]
  rfl
 have hext:WExt (zN N) w w2:=by
  refine⟨by rw[hw2];rfl,by rw[hw2];rfl,by rw[hw2];rfl,hsize,fun k hk ho=>hold k hk ?_⟩
  rintro rfl
  exact ho (zet hn)
 rw[←hw2]
 refine⟨_,N,zc8 l',.tup [],rfl,⟨rfl,l',rfl,⟨hlen,fun i hi=>?_,hperm⟩,hlen▸hsrt⟩,⟨hN.inj',fun b k h=>?_,fun k h=>?_⟩,?_,hb,.tup [] #[] rfl (fun i x v hx=>by simp at hx),hext,fun _ _ h=>h,Fx.refl N⟩
 ·rw[List.getElem?_eq_none (by omega),List.getElem?_eq_none (by omega)]
 ·exact⟨Nat.lt_of_lt_of_le (hN.lt' b k h).1 hsize,(hN.lt' b k h).2⟩
 ·exact Nat.lt_of_lt_of_le (hN.sm k h) hsize
 ·intro b x hx
  have hbx:b=16/\x = .data .int l':=by
   unfold zc8 zh at hx
   cases hb:Nat.beq 16 b with
   |true=>
    have:=Nat.eq_of_beq_eq_true hb
    simp[zh,hb]at hx
    exact⟨this.symm,hx.symm⟩
   |false=>simp[zh,hb]at hx
  obtain⟨rfl,rfl⟩:=hbx
  refine⟨by show l'.length<=zE;omega,.inr ⟨r,_,T,hn,hes,by show r.len=l'.length;omega,by show l'.length<=r.cap;omega,hnew,?_,?_,?_⟩⟩
  ·show r.cap*1<=_
   unfold Go.Sort.putCells
   simp
   omega
  ·show(List.flatMap EK.int.enc l').length=_
   rw[zji]
   unfold Go.Sort.putCells
   have:EK.int.size=1:=rfl
   simp[this]
   show l'.length=min l'.length cs.size
   omega
  ·intro i x v hx hv
   have hi:i<l'.length:=by
    have h1:=(List.getElem?_eq_some_iff.1 hx).1
    rw[zji,List.length_map]at h1
    exact h1
   rw[show l'.flatMap EK.int.enc=l'.map DV.int from zji l',List.getElem?_map,List.getElem?_eq_getElem hi]at hx
   have hi2:i<cs.size:=by omega
   have hv' : (Go.Sort.putCells (Value.int .i64) 0 l'.toArray cs)[i]? = some (.int .i64 l'[i]):=by
    unfold Go.Sort.putCells
    rw[Array.getElem?_mapIdx,Array.getElem?_eq_getElem hi2]
    simp[hi]
   rw[List.getElem?_take]at hv
   split at hv
   ·rw[Array.getElem?_toList,hv']at hv
    cases hv
    cases hx
    exact .lit _ rfl
   ·cases hv
abbrev zxC:TV:=.c (.d (.lit (.slice none 0 0)))
theorem zwX:Spec X 184 [] [zxC,.int 0] (Ret [] zxC):=by
 refine zGO X_ok Tryz.f184 fun hb hH=>⟨rfl,?_⟩
 refine zNO (by decide) ?_
 refine zNO (by decide) ?_
 show ARet ..
 exact zi rfl ⟨rfl,rfl⟩
theorem zup (n:Nat) (h0:0<n) (h1:n<=zk):Spec X 184 [] [zxC,.int n] (Ret [(0,.data .int (List.replicate n (0:Int)))] (.c (.view 0 0 0))):=by
 refine zGO X_ok Tryz.f184 fun hb hH=>⟨rfl,?_⟩
 unfold zk at h1
 have hw:IntKind.i64.wrap ((n:Int)-IntKind.i64.wrap (0-0))=(n:Int):=by
  have:IntKind.i64.wrap ((0:Int)-0)=0:=by decide
  rw[this,zB (by omega) (by omega)];omega
 show ABr (decide ((n:Int)<0)) _ _
 refine⟨fun h=>absurd h (by simp),fun _=>?_⟩
 show ABr (decide (IntKind.i64.wrap ((n:Int)-IntKind.i64.wrap (0-0))>0)) _ _
 refine⟨fun _=>?_,fun h=>absurd h (by rw[hw];simp;omega)⟩
 show AOb ..
 refine⟨by decide,?_⟩
 show AOb (0<=IntKind.i64.wrap ((n:Int)-IntKind.i64.wrap (0-0))/\IntKind.i64.wrap ((n:Int)-IntKind.i64.wrap (0-0))<=(zk:Int)) _
 refine⟨by rw[hw];unfold zk;omega,?_⟩
 show AOb ((0:Int)<=0/\(0:Int)<=((List.replicate (IntKind.i64.wrap ((n:Int)-IntKind.i64.wrap (0-0))).toNat (0:Int)).length:Int)) _
 refine⟨by omega,?_⟩
 show ARet ..
 refine⟨[(608,0)],[(0,.data .int (List.replicate n (0:Int)))],[.c (.view 0 0 0)],.cons _ _ _ _ (.c _ _ (.view _ _ _ _ rfl)) .nil,.old 0 608 _ _ _ rfl rfl (.data_eq ?_) .nil,rfl,rfl,rfl⟩
 rw[hw]
 rfl
theorem zoF (a b c:List Int) (h:a.length+b.length+c.length<=zk):Spec X 138 [] [.c (.d (.sl .ints [a,b,c]))] (Ret [(0,.data .int (a++b++c))] (.c (.own 0))):=by
 refine zGO X_ok Tryz.f138 fun hb hH=>⟨rfl,?_⟩
 have hm:a.length+b.length+c.length<=68719476736:=h
 have w1:IntKind.i64.wrap ((0:Int)+a.length)=(a.length:Int):=by rw[zB (by omega) (by omega)];omega
 have w2:IntKind.i64.wrap ((a.length:Int)+b.length)=((a.length+b.length:Nat):Int):=by rw[zB (by omega) (by omega)];omega
 have w3:IntKind.i64.wrap (((a.length+b.length:Nat):Int)+c.length)=((a.length+b.length+c.length:Nat):Int):=by rw[zB (by omega) (by omega)];omega
 have x2:IntKind.i64.wrap (IntKind.i64.wrap ((0:Int)+a.length)+b.length)=((a.length+b.length:Nat):Int):=by rw[w1,w2]
 have x3:IntKind.i64.wrap (IntKind.i64.wrap (IntKind.i64.wrap ((0:Int)+a.length)+b.length)+c.length)=((a.length+b.length+c.length:Nat):Int):=by rw[x2,w3]
 show ∃n,_
 refine⟨4,.next ?_⟩
 show ABr (decide ((0:Int)<3)) _ _
 refine⟨fun _=>?_,fun h=>absurd h (by decide)⟩
 show AOb ((0:Int)<=0/\(0:Int)<3) _
 refine⟨by decide,?_⟩
 show ABr (decide (IntKind.i64.wrap ((0:Int)+a.length)<0)) _ _
 refine⟨fun h=>absurd h (by rw[w1];simp;try omega),fun _=>?_⟩
 show ALoop ..
 refine .next ?_
 show ABr (decide ((1:Int)<3)) _ _
 refine⟨fun _=>?_,fun h=>absurd h (by decide)⟩
 show AOb ((0:Int)<=1/\(1:Int)<3) _
 refine⟨by decide,?_⟩
 show ABr (decide (IntKind.i64.wrap (IntKind.i64.wrap ((0:Int)+a.length)+b.length)<0)) _ _
 refine⟨fun h=>absurd h (by rw[x2];simp;try omega),fun _=>?_⟩
 show ALoop ..
 refine .next ?_
 show ABr (decide ((2:Int)<3)) _ _
 refine⟨fun _=>?_,fun h=>absurd h (by decide)⟩
 show AOb ((0:Int)<=2/\(2:Int)<3) _
 refine⟨by decide,?_⟩
 show ABr (decide (IntKind.i64.wrap (IntKind.i64.wrap (IntKind.i64.wrap ((0:Int)+a.length)+b.length)+c.length)<0)) _ _
 refine⟨fun h=>absurd h (by rw[x3];simp;try omega),fun _=>?_⟩
 show ALoop ..
 refine .next ?_
 show ABr (decide ((3:Int)<3)) _ _
 refine⟨fun h=>absurd h (by decide),fun _=>?_⟩
 show ACall _ _ [zxC,.int (IntKind.i64.wrap (IntKind.i64.wrap (IntKind.i64.wrap ((0:Int)+a.length)+b.length)+c.length))] _ _ _
 rw[x3]
 by_cases h0:a.length+b.length+c.length=0
 ·have ea:a=[]:=List.eq_nil_of_length_eq_zero (by omega)
  have eb:b=[]:=List.eq_nil_of_length_eq_zero (by omega)
  have ec:c=[]:=List.eq_nil_of_length_eq_zero (by omega)
  subst ea eb ec
  refine za zwX rfl ?_
  show ∃n,_
  refine⟨4,.next ?_⟩
  show ABr (decide ((0:Int)<3)) _ _
  refine⟨fun _=>?_,fun h=>absurd h (by decide)⟩
  show AOb ((0:Int)<=0/\(0:Int)<3) _
  refine⟨by decide,?_⟩
  show AOb ..
  refine⟨Nat.zero_le _,?_⟩
  show ALoop ..
  refine .next ?_
  show ABr (decide ((1:Int)<3)) _ _
  refine⟨fun _=>?_,fun h=>absurd h (by decide)⟩
  show AOb ((0:Int)<=1/\(1:Int)<3) _
  refine⟨by decide,?_⟩
  show AOb ..
  refine⟨Nat.zero_le _,?_⟩
  show ALoop ..
  refine .next ?_
  show ABr (decide ((2:Int)<3)) _ _
  refine⟨fun _=>?_,fun h=>absurd h (by decide)⟩
  show AOb ((0:Int)<=2/\(2:Int)<3) _
  refine⟨by decide,?_⟩
  show AOb ..
  refine⟨Nat.zero_le _,?_⟩
  show ALoop ..
  refine .next ?_
  show ABr (decide ((3:Int)<3)) _ _
  refine⟨fun h=>absurd h (by decide),fun _=>?_⟩
  show ARet ..
  exact⟨[(_,0)],[(0,.data .int [])],[.c (.own 0)],.cons _ _ _ _ (.c _ _ (.own1 _ _)) .nil,.old 0 _ _ _ _ rfl rfl (.data_eq rfl) .nil,rfl,rfl,rfl⟩
 ·refine .mk _ (zup _ (by omega) h) ?_
  rintro H r ⟨rfl,rfl⟩ _ _
  refine⟨.inl rfl,?_⟩
  show ∃n,_
  refine⟨4,.next ?_⟩
  show ABr (decide ((0:Int)<3)) _ _
  refine⟨fun _=>?_,fun h=>absurd h (by decide)⟩
  show AOb ((0:Int)<=0/\(0:Int)<3) _
  refine⟨by decide,?_⟩
  show AOb (0+a.length<=zk) _
  refine⟨by omega,?_⟩
  show ALoop ..
  refine .next ?_
  show ABr (decide ((1:Int)<3)) _ _
  refine⟨fun _=>?_,fun h=>absurd h (by decide)⟩
  show AOb ((0:Int)<=1/\(1:Int)<3) _
  refine⟨by decide,?_⟩
  show AOb (((List.replicate (a.length+b.length+c.length) (0:Int)).take 0++a).length+b.length<=zk) _
  refine⟨by simp;omega,?_⟩
  show ALoop ..
  refine .next ?_
  show ABr (decide ((2:Int)<3)) _ _
  refine⟨fun _=>?_,fun h=>absurd h (by decide)⟩
  show AOb ((0:Int)<=2/\(2:Int)<3) _
  refine⟨by decide,?_⟩
  show AOb (((List.replicate (a.length+b.length+c.length) (0:Int)).take 0++a++b).length+c.length<=zk) _
  refine⟨by simp;omega,?_⟩
  show ALoop ..
  refine .next ?_
  show ABr (decide ((3:Int)<3)) _ _
  refine⟨fun h=>absurd h (by decide),fun _=>?_⟩
  show ARet ..
  refine⟨[(_,0)],[(0,.data .int (a++b++c))],[.c (.own 0)],.cons _ _ _ _ (.c _ _ (.own1 _ _)) .nil,.old 0 _ _ _ _ rfl rfl (.data_eq ?_) .nil,rfl,rfl,rfl⟩
  show(List.replicate (a.length+b.length+c.length) (0:Int)).take 0++a++b++c=_
  simp
structure Rev (l m:List Int) (o n i:Nat):Prop where
 len:m.length=l.length
 out:∀p,(p<o\/o+n<=p)->at0 m p=at0 l p
 ins:∀q,q<n->at0 m (o+q)=if q<i\/n<=q+i then at0 l (o+(n-1-q)) else at0 l (o+q)
theorem Rev.step {l m:List Int} {o n i:Nat} (h:Rev l m o n i) (hi:2*i+1<n) (hn:o+n<=l.length):Rev l (swp m (o+i) (o+(n-1-i))) o n (i+1):=by
 have hl:=h.len
 refine⟨(zud _ _ _).trans hl,fun p hp=>?_,fun q hq=>?_⟩
 ·rw[zrO m _ _ _ (by omega) (by omega),if_neg (by omega),if_neg (by omega)]
  exact h.out p hp
 ·rw[zrO m _ _ _ (by omega) (by omega)]
  by_cases h1:q=n-1-i
  ·subst h1
   rw[if_pos rfl,h.ins i (by omega),if_neg (by omega),if_pos (by omega)]
   congr 1
   omega
  ·rw[if_neg (by omega)]
   by_cases h2:q=i
   ·subst h2
    rw[if_pos rfl,h.ins (n-1-q) (by omega),if_neg (by omega),if_pos (by omega)]
   ·rw[if_neg (by omega),h.ins q hq]
    by_cases h3:q<i\/n<=q+i
    ·rw[if_pos h3,if_pos (by omega)]
    ·rw[if_neg h3,if_neg (by omega)]
theorem zx3 {l m:List Int} (hl:l.length=m.length) (h:∀p,p<l.length->at0 l p=at0 m p):l=m:=by
 refine List.ext_getElem hl fun p h1 h2=>?_
 have:=h p h1
 unfold at0 at this
 rw[List.getD_eq_getElem?_getD,List.getD_eq_getElem?_getD,List.getElem?_eq_getElem h1,List.getElem?_eq_getElem h2]at this
 exact this
def zcX (l:List Int) (o n:Nat):List Int:=l.take o++((l.drop o).take n).reverse++l.drop (o+n)
theorem zjx (l:List Int) (o n:Nat) (hn:o+n<=l.length):(zcX l o n).length=l.length:=by
 unfold zcX
 simp
 omega
theorem zhs (l m:List Int) (p:Nat):at0 (l++m) p=if p<l.length then at0 l p else at0 m (p-l.length):=by
 unfold at0
 rw[List.getD_eq_getElem?_getD,List.getD_eq_getElem?_getD,List.getD_eq_getElem?_getD,List.getElem?_append]
 split<;>rfl
theorem zi9 (l:List Int) (o p:Nat):at0 (l.drop o) p=at0 l (o+p):=by
 unfold at0
 rw[List.getD_eq_getElem?_getD,List.getD_eq_getElem?_getD,List.getElem?_drop]
theorem zjd (l:List Int) (o p:Nat) (h:p<o):at0 (l.take o) p=at0 l p:=by
 unfold at0
 rw[List.getD_eq_getElem?_getD,List.getD_eq_getElem?_getD,List.getElem?_take,if_pos h]
theorem zxt (l:List Int) (p:Nat) (h:p<l.length):at0 l.reverse p=at0 l (l.length-1-p):=by
 unfold at0
 rw[List.getD_eq_getElem?_getD,List.getD_eq_getElem?_getD,List.getElem?_reverse h]
theorem Rev.done {l m:List Int} {o n i:Nat} (h:Rev l m o n i) (hi:n<=2*i+1) (hn:o+n<=l.length):m=zcX l o n:=by
 refine zx3 (h.len.trans (zjx l o n hn).symm) fun p hp=>?_
 unfold zcX
 rw[zhs,zhs]
 have e1:(l.take o).length=o:=by simp;omega
 have e2:((l.drop o).take n).reverse.length=n:=by simp;omega
 rw[List.length_append,e1,e2]
 by_cases h1:p<o
 ·rw[if_pos (by omega),if_pos h1,zjd _ _ _ h1]
  exact h.out p (.inl h1)
 ·by_cases h2:p<o+n
  ·rw[if_pos h2,if_neg h1,zxt _ _ (by simp;omega),zjd _ _ _ (by simp;omega),zi9]
   have e3:((l.drop o).take n).length=n:=by simp;omega
   rw[e3]
   have:=h.ins (p-o) (by omega)
   rw[show o+(p-o)=p by omega]at this
   rw[this]
   by_cases h3:p-o<i\/n<=p-o+i
   ·rw[if_pos h3]
   ·rw[if_neg h3]
    congr 1
    omega
  ·rw[if_neg h2,zi9,h.out p (.inr (by omega))]
   congr 1
   omega
theorem zdW (l:List Int) (o n:Nat) (hn:o+n<=l.length):Spec X 268 (zc8 l) [.c (.view 16 o n)] (fun H r=>r = .tup []/\H=zc8 (zcX l o n)):=by
 refine zGO X_ok Tryz.f268 fun hb hH=>⟨rfl,?_⟩
 have hmax:l.length<=zE:=hH 16 .int l rfl
 unfold zE at hmax
 show ∃n,_
 refine⟨0,ALoop.inv (ι:={p:List Int×Nat // Rev l p.1 o n p.2/\2*p.2<=n+1}) (fun p=>⟨[(0,.c (.view 16 o n)),(2,.int p.1.2),(3,.int ((n:Int)-1-p.1.2))],[(16,.data .int p.1.1)],64⟩) (fun p=>n-p.1.2) ⟨(l,0),⟨rfl,fun _ _=>rfl,fun q hq=>by rw[if_neg (by omega)]⟩,by show 2*0<=n+1;omega⟩ ?_ ?_⟩
 ·refine⟨[(16,16)],.cons _ _ _ (.c _ _ (.view _ _ _ _ rfl)) (.cons _ _ _ .same (.cons _ _ _ (.int_eq ?_) .nil)),.old 16 16 _ _ _ rfl rfl (.data_eq rfl) .nil,rfl⟩
  rw[zB (by omega) (by omega)]
  show(n:Int)-1=(n:Int)-1-((0:Nat):Int)
  omega
 ·rintro⟨⟨m,i⟩,hR,hi⟩
  have hml:m.length=l.length:=hR.len
  have hi' : 2*i<=n+1:=hi
  show ABr (decide ((i:Int)<(n:Int)-1-(i:Int))) _ _
  refine⟨fun(h:decide ((i:Int)<(n:Int)-1-(i:Int))=true)=>?_,fun(h:decide ((i:Int)<(n:Int)-1-(i:Int))=false)=>?_⟩
  ·have hlt:2*i+1<n:=by simp at h;omega
   show AOb ((0:Int)<=(n:Int)-1-(i:Int)/\(n:Int)-1-(i:Int)<(n:Int)) _
   refine⟨by omega,?_⟩
   show AOb (o+((n:Int)-1-(i:Int)).toNat<m.length) _
   refine⟨by omega,?_⟩
   show AOb ((0:Int)<=(i:Int)/\(i:Int)<(n:Int)) _
   refine⟨by omega,?_⟩
   show AOb (o+(i:Int).toNat<m.length) _
   refine⟨by omega,?_⟩
   show AOb ((0:Int)<=(i:Int)/\(i:Int)<(n:Int)) _
   refine⟨by omega,?_⟩
   show AOb (o+(i:Int).toNat<m.length) _
   refine⟨by omega,?_⟩
   show AOb ((0:Int)<=(n:Int)-1-(i:Int)/\(n:Int)-1-(i:Int)<(n:Int)) _
   refine⟨by omega,?_⟩
   show AOb (o+((n:Int)-1-(i:Int)).toNat<(m.set (o+(i:Int).toNat) (at0 m (o+((n:Int)-1-(i:Int)).toNat))).length) _
   refine⟨by simp only[List.length_set];omega,?_⟩
   show ARound ..
   refine⟨⟨(swp m (o+i) (o+(n-1-i)),i+1),hR.step hlt hn,by show 2*(i+1)<=n+1;omega⟩,by show n-(i+1)<n-i;omega,[(16,16)],.cons _ _ _ (.c _ _ (.view _ _ _ _ rfl)) (.cons _ _ _ (.int_eq ?_) (.cons _ _ _ (.int_eq ?_) .nil)),.old 16 16 _ _ _ rfl rfl (.data_eq ?_) .nil,rfl⟩
   ·show IntKind.i64.wrap ((i:Int)+1)=((i+1:Nat):Int)
    rw[zB (by omega) (by omega)];omega
   ·show IntKind.i64.wrap ((n:Int)-1-(i:Int)-1)=(n:Int)-1-((i+1:Nat):Int)
    rw[zB (by omega) (by omega)];omega
   ·show(m.set (o+(i:Int).toNat) (at0 m (o+((n:Int)-1-(i:Int)).toNat))).set (o+((n:Int)-1-(i:Int)).toNat) (at0 m (o+(i:Int).toNat))=swp m (o+i) (o+(n-1-i))
    have e:((n:Int)-1-(i:Int)).toNat=n-1-i:=by omega
    rw[e]
    rfl
  ·have hge:n<=2*i+1:=by simp at h;omega
   show ARet ..
   refine⟨[(16,16)],zc8 m,[],.nil,.old 16 16 _ _ _ rfl rfl (.data_eq rfl) .nil,rfl,rfl,?_⟩
   exact congrArg zc8 (hR.done hge hn)
def zvP (l:List Int) (n:Nat):Prop:=∀i,i+1<n->at0 l i≠at0 l (i+1)
def zzv (l:List Int):zg->TV->Prop:=fun H r=>∃m n,H=zc8 m/\r = .c (.view 16 0 n)/\n<=m.length/\m.length=l.length/\(n=l.length↔zvP l l.length)
theorem zol (l:List Int):Spec X 106 (zc8 l) [.c (.own 16)] (zzv l):=by
 refine zGO X_ok Tryz.f106 fun hb hH=>⟨rfl,?_⟩
 have hmax:l.length<=zE:=hH 16 .int l rfl
 unfold zE at hmax
 show ABr (decide ((l.length:Int)<2)) _ _
 refine⟨fun h=>?_,fun h=>?_⟩
 ·have hlt:l.length<2:=by simp at h;omega
  show ARet ..
  exact⟨[(16,16)],zc8 l,[.c (.view 16 0 l.length)],.cons _ _ _ _ (.c _ _ (.whole _ _ _ rfl rfl)) .nil,.old 16 16 _ _ _ rfl rfl (.data_eq rfl) .nil,rfl,l,l.length,rfl,rfl,Nat.le_refl _,rfl,⟨fun _ i hi=>by omega,fun _=>rfl⟩⟩
 ·have hge:2<=l.length:=by simp at h;omega
  show ∃n,_
  refine⟨0,ALoop.inv (ι:={k:Nat // 1<=k/\k<=l.length/\zvP l k}) (fun k=>⟨[(0,.c (.own 16)),(3,.int k.1)],[(16,.data .int l)],64⟩) (fun k=>l.length-k.1) ⟨1,Nat.le_refl _,by omega,fun i hi=>by omega⟩ ?_ ?_⟩
  ·exact⟨[(16,16)],.cons _ _ _ (.c _ _ (.own _ _ rfl)) (.cons _ _ _ .same .nil),.old 16 16 _ _ _ rfl rfl (.data_eq rfl) .nil,rfl⟩
  ·rintro⟨k,hk1,hkl,hno⟩
   show ABr (decide ((k:Int)<(l.length:Int))) _ _
   refine⟨fun h=>?_,fun h=>?_⟩
   ·have hlt:k<l.length:=by simpa using h
    have hw:IntKind.i64.wrap ((k:Int)-1)=((k-1:Nat):Int):=znT (by unfold zE;omega) (by omega)
    show AOb ((0:Int)<=(k:Int)/\(k:Int)<(l.length:Int)) _
    refine⟨by omega,?_⟩
    show AOb ((k:Int).toNat<l.length) _
    refine⟨by omega,?_⟩
    show AOb ((0:Int)<=IntKind.i64.wrap ((k:Int)-1)/\IntKind.i64.wrap ((k:Int)-1)<(l.length:Int)) _
    refine⟨by rw[hw];omega,?_⟩
    show AOb ((IntKind.i64.wrap ((k:Int)-1)).toNat<l.length) _
    refine⟨by rw[hw];omega,?_⟩
    have e1:(IntKind.i64.wrap ((k:Int)-1)).toNat=k-1:=by rw[hw];omega
    show ABr (decide (at0 l k=at0 l (IntKind.i64.wrap ((k:Int)-1)).toNat)) _ _
    rw[e1]
    refine⟨fun h2=>?_,fun h2=>?_⟩
    ·have hdup:at0 l k=at0 l (k-1):=by simpa using h2
     show AOb ((0:Int)<=(k:Int)/\(k:Int)<=(l.length:Int)) _
     refine⟨by omega,?_⟩
     show ∃n,_
     refine⟨0,ALoop.inv (ι:={p:List Int×Nat×Nat // p.1.length=l.length/\k<=p.2.1/\p.2.1<k+p.2.2/\1<=p.2.2/\k+p.2.2<=l.length}) (fun p=>⟨[(0,.c (.own 16)),(3,.int p.1.2.1),(4,.c (.view 16 k ((l.length:Int)-(k:Int)).toNat)),(5,.int p.1.2.2)],[(16,.data .int p.1.1)],64⟩) (fun p=>l.length-p.1.2.2) ⟨(l,k,1),rfl,Nat.le_refl _,by show k<k+1;omega,Nat.le_refl _,by show k+1<=l.length;omega⟩ ?_ ?_⟩
     ·exact⟨[(16,16)],.cons _ _ _ (.c _ _ (.own _ _ rfl)) (.cons _ _ _ .same (.cons _ _ _ (.c _ _ (.view _ _ _ _ rfl)) (.cons _ _ _ .same .nil))),.old 16 16 _ _ _ rfl rfl (.data_eq rfl) .nil,rfl⟩
     ·rintro⟨⟨m,q,k2⟩,hm,hq,hq2,hk2,hkk⟩
      have hm:m.length=l.length:=hm
      have hq:k<=q:=hq
      have hq2:q<k+k2:=hq2
      have hk2:1<=k2:=hk2
      have hkk:k+k2<=l.length:=hkk
      show ABr (decide ((k2:Int)<((((l.length:Int)-(k:Int)).toNat:Nat):Int))) _ _
      refine⟨fun h=>?_,fun h=>?_⟩
      ·have hlt2:k+k2<l.length:=by simp at h;omega
       have hw2:IntKind.i64.wrap ((k2:Int)-1)=((k2-1:Nat):Int):=znT (by unfold zE;omega) (by omega)
       show AOb ((0:Int)<=(k2:Int)/\(k2:Int)<((((l.length:Int)-(k:Int)).toNat:Nat):Int)) _
       refine⟨by omega,?_⟩
       show AOb (k+(k2:Int).toNat<m.length) _
       refine⟨by omega,?_⟩
       show AOb ((0:Int)<=IntKind.i64.wrap ((k2:Int)-1)/\IntKind.i64.wrap ((k2:Int)-1)<((((l.length:Int)-(k:Int)).toNat:Nat):Int)) _
       refine⟨by rw[hw2];omega,?_⟩
       show AOb (k+(IntKind.i64.wrap ((k2:Int)-1)).toNat<m.length) _
       refine⟨by rw[hw2];omega,?_⟩
       show ABr ..
       refine⟨fun _=>?_,fun _=>?_⟩
       ·show AOb ((0:Int)<=(k2:Int)/\(k2:Int)<((((l.length:Int)-(k:Int)).toNat:Nat):Int)) _
        refine⟨by omega,?_⟩
        show AOb (k+(k2:Int).toNat<m.length) _
        refine⟨by omega,?_⟩
        show AOb ((0:Int)<=(q:Int)/\(q:Int)<(m.length:Int)) _
        refine⟨by omega,?_⟩
        show AOb ((q:Int).toNat<m.length) _
        refine⟨by omega,?_⟩
        show ARound ..
        exact⟨⟨(m.set q (at0 m (k+k2)),q+1,k2+1),by show(m.set q _).length=_;rw[List.length_set];exact hm,by show k<=q+1;omega,by show q+1<k+(k2+1);omega,by show 1<=k2+1;omega,by show k+(k2+1)<=l.length;omega⟩,by show l.length-(k2+1)<l.length-k2;omega,[(16,16)],.cons _ _ _ (.c _ _ (.own _ _ rfl)) (.cons _ _ _ (.int_eq (zad (i:=q) (by unfold zE;omega))) (.cons _ _ _ (.c _ _ (.view _ _ _ _ rfl)) (.cons _ _ _ (.int_eq (zad (i:=k2) (by unfold zE;omega))) .nil))),.old 16 16 _ _ _ rfl rfl (.data_eq rfl) .nil,rfl⟩
       ·show ARound ..
        exact⟨⟨(m,q,k2+1),hm,hq,by show q<k+(k2+1);omega,by show 1<=k2+1;omega,by show k+(k2+1)<=l.length;omega⟩,by show l.length-(k2+1)<l.length-k2;omega,[(16,16)],.cons _ _ _ (.c _ _ (.own _ _ rfl)) (.cons _ _ _ .same (.cons _ _ _ (.c _ _ (.view _ _ _ _ rfl)) (.cons _ _ _ (.int_eq (zad (i:=k2) (by unfold zE;omega))) .nil))),.old 16 16 _ _ _ rfl rfl (.data_eq rfl) .nil,rfl⟩
      ·show AOb ((0:Int)<=(q:Int)/\(q:Int)<=(m.length:Int)) _
       refine⟨by omega,?_⟩
       show AOb ((0:Int)<=(q:Int)/\(q:Int)<=((zK m (q:Int).toNat (List.replicate ((m.length:Int)-(q:Int)).toNat (0:Int))).length:Int)) _
       have hspl:(zK m (q:Int).toNat (List.replicate ((m.length:Int)-(q:Int)).toNat (0:Int))).length=m.length:=by unfold zK;simp;omega
       refine⟨by rw[hspl];omega,?_⟩
       show ARet ..
       refine⟨[(16,16)],zc8 (zK m (q:Int).toNat (List.replicate ((m.length:Int)-(q:Int)).toNat (0:Int))),[.c (.view 16 0 q)],.cons _ _ _ _ ?_ .nil,.old 16 16 _ _ _ rfl rfl (.data_eq rfl) .nil,rfl,_,q,rfl,rfl,by rw[hspl];omega,by rw[hspl];exact hm,⟨fun h=>by omega,fun h=>absurd (h (k-1) (by omega)) (by rw[show k-1+1=k by omega];exact fun hc=>hc hdup.symm)⟩⟩
       have e:(((some (q:Int)).getD ((List.length (α:=Int) (zK m (q:Int).toNat (List.replicate ((m.length:Int)-(q:Int)).toNat (0:Int))):Nat):Int))-(none.getD 0:Int)).toNat=q:=by simp
       show LeT _ _ _ (.c (.view 16 _ (((some (q:Int)).getD ((List.length (α:=Int) (zK m (q:Int).toNat (List.replicate ((m.length:Int)-(q:Int)).toNat (0:Int))):Nat):Int))-(none.getD 0:Int)).toNat)) _
       rw[e]
       exact .c _ _ (.view _ _ _ _ rfl)
    ·have hne:at0 l k≠at0 l (k-1):=by simpa using h2
     show ARound ..
     exact⟨⟨k+1,by omega,by omega,fun i hi=>by
      by_cases hik:i+1=k
      ·subst hik;exact fun hc=>hne (by simpa using hc.symm)
      ·exact hno i (by omega)⟩,by show l.length-(k+1)<l.length-k;omega,[(16,16)],.cons _ _ _ (.c _ _ (.own _ _ rfl)) (.cons _ _ _ (.int_eq (zad (i:=k) (by unfold zE;omega))) .nil),.old 16 16 _ _ _ rfl rfl (.data_eq rfl) .nil,rfl⟩
   ·have hk:k=l.length:=by simp at h;omega
    show ARet ..
    exact⟨[(16,16)],zc8 l,[.c (.view 16 0 l.length)],.cons _ _ _ _ (.c _ _ (.whole _ _ _ rfl rfl)) .nil,.old 16 16 _ _ _ rfl rfl (.data_eq rfl) .nil,rfl,l,l.length,rfl,rfl,Nat.le_refl _,rfl,⟨fun _=>hk▸hno,fun _=>rfl⟩⟩
theorem zct (c:Int):Spec X 261 [] [.int c] (Ret [] (.bo (cond (decide (c>=0)) (decide (c<3)) false))):=by
 refine zGO X_ok Tryz.f261 fun _ _=>⟨rfl,?_⟩
 show ARet ..
 exact zt rfl ⟨rfl,rfl⟩
theorem LeC.frzv {ρ:List (Nat×Nat)} {h h' : zg} {k:EK} {l l' : List k.T} {b o m:Nat} (h1:(za3 ρ b).isNone=true) (h2:zh h b=some (.data k l)) (h3:o+m<=l.length) (h4:(l.drop o).take m=l'):LeC ρ h h' (.view b o m) (.d (.sl k l')):=by
 subst h4
 refine .frz _ _ ?_
 show zbF _ _ (7+1) _=_
 simp only[zbF]
 rw[h1,h2]
 have:Nat.ble (o+m) l.length=true:=by rw[Nat.ble_eq];exact h3
 simp only[this,cond_true]
theorem zsd (l:List Int):zK (List.replicate ((l.length:Int)).toNat (0:Int)) 0 (l.take (List.replicate ((l.length:Int)).toNat (0:Int)).length)=l:=by
 unfold zK
 simp
theorem zaG (l:Lists) (h:l.ok):Spec X 262 [] [l.tv] (Ret [(0,.data .int l.l0),(1,.data .int l.l1),(2,.data .int l.l2)] (.agg [.own 0,.own 1,.own 2])):=by
 refine zGO X_ok Tryz.f262 fun _ _=>⟨rfl,?_⟩
 show ∃n,_
 refine⟨4,.next ?_⟩
 show ABr ..
 refine⟨fun _=>?_,fun hb=>absurd hb (by decide)⟩
 show AOb ..
 refine⟨by decide,?_⟩
 show AOb ((0:Int)<=(l.l0.length:Int)/\(l.l0.length:Int)<=(l.l0.length:Int)/\(l.l0.length:Int)<=(zk:Int)) _
 refine⟨by have:=h.1;omega,?_⟩
 show AOb ..
 refine⟨by decide,?_⟩
 show AOb ..
 refine⟨by decide,?_⟩
 show AOb ..
 refine⟨by decide,?_⟩
 show ALoop ..
 refine .next ?_
 show ABr ..
 refine⟨fun _=>?_,fun hb=>absurd hb (by decide)⟩
 show AOb ..
 refine⟨by decide,?_⟩
 show AOb ((0:Int)<=(l.l1.length:Int)/\(l.l1.length:Int)<=(l.l1.length:Int)/\(l.l1.length:Int)<=(zk:Int)) _
 refine⟨by have:=h.2.1;omega,?_⟩
 show AOb ..
 refine⟨by decide,?_⟩
 show AOb ..
 refine⟨by decide,?_⟩
 show AOb ..
 refine⟨by decide,?_⟩
 show ALoop ..
 refine .next ?_
 show ABr ..
 refine⟨fun _=>?_,fun hb=>absurd hb (by decide)⟩
 show AOb ..
 refine⟨by decide,?_⟩
 show AOb ((0:Int)<=(l.l2.length:Int)/\(l.l2.length:Int)<=(l.l2.length:Int)/\(l.l2.length:Int)<=(zk:Int)) _
 refine⟨by have:=h.2.2;omega,?_⟩
 show AOb ..
 refine⟨by decide,?_⟩
 show AOb ..
 refine⟨by decide,?_⟩
 show AOb ..
 refine⟨by decide,?_⟩
 show ALoop ..
 refine .next ?_
 show ABr ..
 refine⟨fun hb=>absurd hb (by decide),fun _=>?_⟩
 show ARet ..
 exact⟨[(416,0),(1056,1),(1696,2)],[(0,.data .int l.l0),(1,.data .int l.l1),(2,.data .int l.l2)],[.agg [.own 0,.own 1,.own 2]],.cons _ _ _ _ (.agg _ _ (.cons _ _ _ _ (.own _ _ rfl) (.cons _ _ _ _ (.own _ _ rfl) (.cons _ _ _ _ (.own _ _ rfl) .nil)))) .nil,
  .old 0 416 _ _ _ rfl rfl (.data_eq (zsd l.l0)) (.old 1 1056 _ _ _ rfl rfl (.data_eq (zsd l.l1)) (.old 2 1696 _ _ _ rfl rfl (.data_eq (zsd l.l2)) .nil)),rfl,rfl,rfl⟩
def Lists.at_ (l:Lists) (c:Int):List Int:=if c=0 then l.l0 else if c=1 then l.l1 else l.l2
def Lists.set_ (l:Lists) (c:Int) (x:List Int):Lists:=if c=0 then {l with l0:=x} else if c=1 then {l with l1:=x} else {l with l2:=x}
def Lists.zero:Lists:=⟨[],[],[]⟩
theorem zfE (l:Lists) (c:Int) (a:List Int) (h:0<=c/\c<=2) (hok:l.ok) (hm:(l.at_ c).length+a.length<=zk):Spec X 240 [] [l.tv,.int c,.c (.d (.sl .int a))] (Ret [] (.tup [(l.set_ c (l.at_ c++a)).tv,.int 0])):=by
 refine zGO X_ok Tryz.f240 fun _ _=>⟨rfl,?_⟩
 have hc:c=0\/c=1\/c=2:=by omega
 rcases hc with rfl|rfl|rfl
 ·show ACall ..
  refine za (zct 0) rfl ?_
  show ABr ..
  refine⟨fun hb=>absurd hb (by decide),fun _=>?_⟩
  show ACall ..
  refine .mk _ (zaG l hok) ?_
  rintro H r ⟨rfl,rfl⟩ _ _
  refine⟨.inl rfl,?_⟩
  show AOb ((0:Int)<=0/\(0:Int)<3) _
  refine⟨by decide,?_⟩
  show AOb (l.l0.length+a.length<=zk) _
  refine⟨hm,?_⟩
  show AOb ((0:Int)<=0/\(0:Int)<3) _
  refine⟨by decide,?_⟩
  show ARet ..
  exact⟨[],[],[(l.set_ 0 (l.at_ 0++a)).tv,.int 0],.cons _ _ _ _ (.agg _ _ (.cons _ _ _ _ (.frz _ _ rfl) (.cons _ _ _ _ (.frz _ _ rfl) (.cons _ _ _ _ (.frz _ _ rfl) .nil)))) (.cons _ _ _ _ .same .nil),.nil,rfl,rfl,rfl⟩
 ·show ACall ..
  refine za (zct 1) rfl ?_
  show ABr ..
  refine⟨fun hb=>absurd hb (by decide),fun _=>?_⟩
  show ACall ..
  refine .mk _ (zaG l hok) ?_
  rintro H r ⟨rfl,rfl⟩ _ _
  refine⟨.inl rfl,?_⟩
  show AOb ((0:Int)<=1/\(1:Int)<3) _
  refine⟨by decide,?_⟩
  show AOb (l.l1.length+a.length<=zk) _
  refine⟨hm,?_⟩
  show AOb ((0:Int)<=1/\(1:Int)<3) _
  refine⟨by decide,?_⟩
  show ARet ..
  exact⟨[],[],[(l.set_ 1 (l.at_ 1++a)).tv,.int 0],.cons _ _ _ _ (.agg _ _ (.cons _ _ _ _ (.frz _ _ rfl) (.cons _ _ _ _ (.frz _ _ rfl) (.cons _ _ _ _ (.frz _ _ rfl) .nil)))) (.cons _ _ _ _ .same .nil),.nil,rfl,rfl,rfl⟩
 ·show ACall ..
  refine za (zct 2) rfl ?_
  show ABr ..
  refine⟨fun hb=>absurd hb (by decide),fun _=>?_⟩
  show ACall ..
  refine .mk _ (zaG l hok) ?_
  rintro H r ⟨rfl,rfl⟩ _ _
  refine⟨.inl rfl,?_⟩
  show AOb ((0:Int)<=2/\(2:Int)<3) _
  refine⟨by decide,?_⟩
  show AOb (l.l2.length+a.length<=zk) _
  refine⟨hm,?_⟩
  show AOb ((0:Int)<=2/\(2:Int)<3) _
  refine⟨by decide,?_⟩
  show ARet ..
  exact⟨[],[],[(l.set_ 2 (l.at_ 2++a)).tv,.int 0],.cons _ _ _ _ (.agg _ _ (.cons _ _ _ _ (.frz _ _ rfl) (.cons _ _ _ _ (.frz _ _ rfl) (.cons _ _ _ _ (.frz _ _ rfl) .nil)))) (.cons _ _ _ _ .same .nil),.nil,rfl,rfl,rfl⟩
theorem zcY (l:Lists) (c:Int) (h:0<=c/\c<=2) (hok:l.ok) (h0:0<(l.at_ c).length):Spec X 255 [] [l.tv,.int c] (Ret [] (.tup [(l.set_ c ((l.at_ c).take ((l.at_ c).length-1))).tv,.int (at0 (l.at_ c) ((l.at_ c).length-1)),.int 0])):=by
 refine zGO X_ok Tryz.f255 fun _ _=>⟨rfl,?_⟩
 have hc:c=0\/c=1\/c=2:=by omega
 rcases hc with rfl|rfl|rfl
 ·have hm:l.l0.length<=68719476736:=hok.1
  have h0:0<l.l0.length:=h0
  have hw:IntKind.i64.wrap ((l.l0.length:Int)-1)=((l.l0.length-1:Nat):Int):=znT (by unfold zE;omega) h0
  have e1:(IntKind.i64.wrap ((l.l0.length:Int)-1)).toNat=l.l0.length-1:=by rw[hw];omega
  show ACall ..
  refine za (zct 0) rfl ?_
  show ABr ..
  refine⟨fun hb=>absurd hb (by decide),fun _=>?_⟩
  show AOb ((0:Int)<=0/\(0:Int)<3) _
  refine⟨by decide,?_⟩
  show ABr (decide ((l.l0.length:Int)=0)) _ _
  refine⟨fun hb=>absurd hb (by rw[decide_eq_true_iff];omega),fun _=>?_⟩
  show ACall ..
  refine .mk _ (zaG l hok) ?_
  rintro H r ⟨rfl,rfl⟩ _ _
  refine⟨.inl rfl,?_⟩
  show AOb ((0:Int)<=0/\(0:Int)<3) _
  refine⟨by decide,?_⟩
  show AOb ((0:Int)<=0/\(0:Int)<3) _
  refine⟨by decide,?_⟩
  show AOb ((0:Int)<=IntKind.i64.wrap ((l.l0.length:Int)-1)/\IntKind.i64.wrap ((l.l0.length:Int)-1)<(l.l0.length:Int)) _
  refine⟨by rw[hw];omega,?_⟩
  show AOb ((IntKind.i64.wrap ((l.l0.length:Int)-1)).toNat<l.l0.length) _
  refine⟨by rw[hw];omega,?_⟩
  show AOb ((0:Int)<=0/\(0:Int)<3) _
  refine⟨by decide,?_⟩
  show AOb ((0:Int)<=IntKind.i64.wrap ((l.l0.length:Int)-1)/\IntKind.i64.wrap ((l.l0.length:Int)-1)<=(l.l0.length:Int)) _
  refine⟨by rw[hw];omega,?_⟩
  show AOb ((0:Int)<=0/\(0:Int)<3) _
  refine⟨by decide,?_⟩
  show ARet ..
  refine⟨[],[],[(l.set_ 0 ((l.at_ 0).take ((l.at_ 0).length-1))).tv,.int (at0 (l.at_ 0) ((l.at_ 0).length-1)),.int 0],.cons _ _ _ _ (.agg _ _ (.cons _ _ _ _ (.frzv (k:=.int) (l:=l.l0) rfl rfl ?_ ?_) (.cons _ _ _ _ (.frz _ _ rfl) (.cons _ _ _ _ (.frz _ _ rfl) .nil)))) (.cons _ _ _ _ (.int_eq ?_) (.cons _ _ _ _ .same .nil)),.nil,rfl,rfl,rfl⟩
  ·show 0+(IntKind.i64.wrap ((l.l0.length:Int)-1)-0).toNat<=l.l0.length
   rw[hw];omega
  ·show(l.l0.drop 0).take (IntKind.i64.wrap ((l.l0.length:Int)-1)-0).toNat=l.l0.take (l.l0.length-1)
   rw[Int.sub_zero,e1,List.drop_zero]
  ·show at0 l.l0 (IntKind.i64.wrap ((l.l0.length:Int)-1)).toNat=at0 l.l0 (l.l0.length-1)
   rw[e1]
 ·have hm:l.l1.length<=68719476736:=hok.2.1
  have h0:0<l.l1.length:=h0
  have hw:IntKind.i64.wrap ((l.l1.length:Int)-1)=((l.l1.length-1:Nat):Int):=znT (by unfold zE;omega) h0
  have e1:(IntKind.i64.wrap ((l.l1.length:Int)-1)).toNat=l.l1.length-1:=by rw[hw];omega
  show ACall ..
  refine za (zct 1) rfl ?_
  show ABr ..
  refine⟨fun hb=>absurd hb (by decide),fun _=>?_⟩
  show AOb ((0:Int)<=1/\(1:Int)<3) _
  refine⟨by decide,?_⟩
  show ABr (decide ((l.l1.length:Int)=0)) _ _
  refine⟨fun hb=>absurd hb (by rw[decide_eq_true_iff];omega),fun _=>?_⟩
  show ACall ..
  refine .mk _ (zaG l hok) ?_
  rintro H r ⟨rfl,rfl⟩ _ _
  refine⟨.inl rfl,?_⟩
  show AOb ((0:Int)<=1/\(1:Int)<3) _
  refine⟨by decide,?_⟩
  show AOb ((0:Int)<=1/\(1:Int)<3) _
  refine⟨by decide,?_⟩
  show AOb ((0:Int)<=IntKind.i64.wrap ((l.l1.length:Int)-1)/\IntKind.i64.wrap ((l.l1.length:Int)-1)<(l.l1.length:Int)) _
  refine⟨by rw[hw];omega,?_⟩
  show AOb ((IntKind.i64.wrap ((l.l1.length:Int)-1)).toNat<l.l1.length) _
  refine⟨by rw[hw];omega,?_⟩
  show AOb ((0:Int)<=1/\(1:Int)<3) _
  refine⟨by decide,?_⟩
  show AOb ((0:Int)<=IntKind.i64.wrap ((l.l1.length:Int)-1)/\IntKind.i64.wrap ((l.l1.length:Int)-1)<=(l.l1.length:Int)) _
  refine⟨by rw[hw];omega,?_⟩
  show AOb ((0:Int)<=1/\(1:Int)<3) _
  refine⟨by decide,?_⟩
  show ARet ..
  refine⟨[],[],[(l.set_ 1 ((l.at_ 1).take ((l.at_ 1).length-1))).tv,.int (at0 (l.at_ 1) ((l.at_ 1).length-1)),.int 0],.cons _ _ _ _ (.agg _ _ (.cons _ _ _ _ (.frz _ _ rfl) (.cons _ _ _ _ (.frzv (k:=.int) (l:=l.l1) rfl rfl ?_ ?_) (.cons _ _ _ _ (.frz _ _ rfl) .nil)))) (.cons _ _ _ _ (.int_eq ?_) (.cons _ _ _ _ .same .nil)),.nil,rfl,rfl,rfl⟩
  ·show 0+(IntKind.i64.wrap ((l.l1.length:Int)-1)-0).toNat<=l.l1.length
   rw[hw];omega
  ·show(l.l1.drop 0).take (IntKind.i64.wrap ((l.l1.length:Int)-1)-0).toNat=l.l1.take (l.l1.length-1)
   rw[Int.sub_zero,e1,List.drop_zero]
  ·show at0 l.l1 (IntKind.i64.wrap ((l.l1.length:Int)-1)).toNat=at0 l.l1 (l.l1.length-1)
   rw[e1]
 ·have hm:l.l2.length<=68719476736:=hok.2.2
  have h0:0<l.l2.length:=h0
  have hw:IntKind.i64.wrap ((l.l2.length:Int)-1)=((l.l2.length-1:Nat):Int):=znT (by unfold zE;omega) h0
  have e1:(IntKind.i64.wrap ((l.l2.length:Int)-1)).toNat=l.l2.length-1:=by rw[hw];omega
  show ACall ..
  refine za (zct 2) rfl ?_
  show ABr ..
  refine⟨fun hb=>absurd hb (by decide),fun _=>?_⟩
  show AOb ((0:Int)<=2/\(2:Int)<3) _
  refine⟨by decide,?_⟩
  show ABr (decide ((l.l2.length:Int)=0)) _ _
  refine⟨fun hb=>absurd hb (by rw[decide_eq_true_iff];omega),fun _=>?_⟩
  show ACall ..
  refine .mk _ (zaG l hok) ?_
  rintro H r ⟨rfl,rfl⟩ _ _
  refine⟨.inl rfl,?_⟩
  show AOb ((0:Int)<=2/\(2:Int)<3) _
  refine⟨by decide,?_⟩
  show AOb ((0:Int)<=2/\(2:Int)<3) _
  refine⟨by decide,?_⟩
  show AOb ((0:Int)<=IntKind.i64.wrap ((l.l2.length:Int)-1)/\IntKind.i64.wrap ((l.l2.length:Int)-1)<(l.l2.length:Int)) _
  refine⟨by rw[hw];omega,?_⟩
  show AOb ((IntKind.i64.wrap ((l.l2.length:Int)-1)).toNat<l.l2.length) _
  refine⟨by rw[hw];omega,?_⟩
  show AOb ((0:Int)<=2/\(2:Int)<3) _
  refine⟨by decide,?_⟩
  show AOb ((0:Int)<=IntKind.i64.wrap ((l.l2.length:Int)-1)/\IntKind.i64.wrap ((l.l2.length:Int)-1)<=(l.l2.length:Int)) _
  refine⟨by rw[hw];omega,?_⟩
  show AOb ((0:Int)<=2/\(2:Int)<3) _
  refine⟨by decide,?_⟩
  show ARet ..
  refine⟨[],[],[(l.set_ 2 ((l.at_ 2).take ((l.at_ 2).length-1))).tv,.int (at0 (l.at_ 2) ((l.at_ 2).length-1)),.int 0],.cons _ _ _ _ (.agg _ _ (.cons _ _ _ _ (.frz _ _ rfl) (.cons _ _ _ _ (.frz _ _ rfl) (.cons _ _ _ _ (.frzv (k:=.int) (l:=l.l2) rfl rfl ?_ ?_) .nil)))) (.cons _ _ _ _ (.int_eq ?_) (.cons _ _ _ _ .same .nil)),.nil,rfl,rfl,rfl⟩
  ·show 0+(IntKind.i64.wrap ((l.l2.length:Int)-1)-0).toNat<=l.l2.length
   rw[hw];omega
  ·show(l.l2.drop 0).take (IntKind.i64.wrap ((l.l2.length:Int)-1)-0).toNat=l.l2.take (l.l2.length-1)
   rw[Int.sub_zero,e1,List.drop_zero]
  ·show at0 l.l2 (IntKind.i64.wrap ((l.l2.length:Int)-1)).toNat=at0 l.l2 (l.l2.length-1)
   rw[e1]
theorem LeC.frz_eq {ρ:List (Nat×Nat)} {h h' : zg} {x:CV} {k:EK} {l m:List k.T} (h1:zbF (fun b=>(za3 ρ b).isNone) h 8 x=some (.sl k l)) (e:l=m):LeC ρ h h' x (.d (.sl k m)):=by subst e;exact .frz _ _ h1
def leftOf (len:Nat) (n:Int):Nat:=len-n.toNat
theorem zog {len:Nat} {n:Int} (hl:len<=68719476736) (h0:0<=n) (h1:n<=9223372036854775807):(if (0:Int)>IntKind.i64.wrap ((len:Int)-n) then (0:Int) else IntKind.i64.wrap ((len:Int)-n))=((leftOf len n:Nat):Int):=by
 rw[zB (by omega) (by omega)]
 unfold leftOf
 split<;>omega
theorem zw7 (a:List Int) (k:Nat) (h:k<=a.length):(((zcX a k (a.length-k)).drop k).take (a.length-k))=(a.drop k).reverse/\(zcX a k (a.length-k)).take k=a.take k:=by
 unfold zcX
 have e1:(a.take k).length=k:=by simp;omega
 have e2:(a.drop k).take (a.length-k)=a.drop k:=by rw[List.take_of_length_le];simp
 rw[e2]
 constructor
 ·rw[List.append_assoc,List.drop_left' e1,List.take_left' (by simp)]
 ·rw[List.append_assoc,List.take_left' e1]
theorem zee (l m:Lists) (c n:Int) (h:0<=c/\c<=2) (h0:0<=n) (h1:n<=9223372036854775807) (hok:l.ok) (hok' : m.ok) (hsum:(l.at_ c).length+(m.at_ c).length<=zk):Spec X 254 [] [l.tv,m.tv,.int c,.int n]
  (Ret [] (.tup [(l.set_ c ((l.at_ c).take (leftOf (l.at_ c).length n))).tv,(m.set_ c (m.at_ c++((l.at_ c).drop (leftOf (l.at_ c).length n)).reverse)).tv,.int 0])):=by
 refine zGO X_ok Tryz.f254 fun _ _=>⟨rfl,?_⟩
 have hc:c=0\/c=1\/c=2:=by omega
 rcases hc with rfl|rfl|rfl
 ·have hm:l.l0.length<=68719476736:=hok.1
  have hE:(if (0:Int)>IntKind.i64.wrap ((l.l0.length:Int)-n) then (0:Int) else IntKind.i64.wrap ((l.l0.length:Int)-n))=((leftOf l.l0.length n:Nat):Int):=zog hm h0 h1
  have hlf:leftOf l.l0.length n<=l.l0.length:=by unfold leftOf;omega
  show ACall ..
  refine za (zct 0) rfl ?_
  show ABr (cond false true (decide (n<0))) _ _
  refine⟨fun hb=>absurd hb (by simp;omega),fun _=>?_⟩
  show ADCall ..
  refine .mk _ _ (zaG l hok) rfl ?_
  show ADCall ..
  refine .mk _ _ (zaG m hok') rfl ?_
  show AOb ((0:Int)<=0/\(0:Int)<3) _
  refine⟨by decide,?_⟩
  show AOb ((0:Int)<=0/\(0:Int)<3) _
  refine⟨by decide,?_⟩
  show AOb ((0:Int)<=(if (0:Int)>IntKind.i64.wrap ((l.l0.length:Int)-n) then (0:Int) else IntKind.i64.wrap ((l.l0.length:Int)-n))/\(if (0:Int)>IntKind.i64.wrap ((l.l0.length:Int)-n) then (0:Int) else IntKind.i64.wrap ((l.l0.length:Int)-n))<=(l.l0.length:Int)) _
  refine⟨by rw[hE];omega,?_⟩
  show ACall ..
  refine .hand [(448,16)] (zc8 l.l0) [.c (.view 16 ((if (0:Int)>IntKind.i64.wrap ((l.l0.length:Int)-n) then (0:Int) else IntKind.i64.wrap ((l.l0.length:Int)-n))).toNat ((l.l0.length:Int)-(if (0:Int)>IntKind.i64.wrap ((l.l0.length:Int)-n) then (0:Int) else IntKind.i64.wrap ((l.l0.length:Int)-n))).toNat)] _ (.cons _ _ _ _ (.c _ _ (.view _ _ _ _ rfl)) .nil) (.old 16 448 _ _ _ rfl rfl (.data_eq rfl) .nil) rfl (zdW l.l0 _ _ (by rw[hE];omega)) ?_
  rintro H r ⟨rfl,rfl⟩ _ _
  refine⟨rfl,.inr ⟨rfl,rfl⟩,?_⟩
  have e1:((if (0:Int)>IntKind.i64.wrap ((l.l0.length:Int)-n) then (0:Int) else IntKind.i64.wrap ((l.l0.length:Int)-n))).toNat=leftOf l.l0.length n:=by rw[hE];omega
  have e2:((l.l0.length:Int)-(if (0:Int)>IntKind.i64.wrap ((l.l0.length:Int)-n) then (0:Int) else IntKind.i64.wrap ((l.l0.length:Int)-n))).toNat=l.l0.length-leftOf l.l0.length n:=by rw[hE];omega
  obtain⟨mv1,mv2⟩:=zw7 l.l0 _ hlf
  have hrl:=zjx l.l0 (leftOf l.l0.length n) (l.l0.length-leftOf l.l0.length n) (by omega)
  show AOb ((0:Int)<=0/\(0:Int)<3) _
  refine⟨by decide,?_⟩
  show AOb (m.l0.length+(((zcX l.l0 ((if (0:Int)>IntKind.i64.wrap ((l.l0.length:Int)-n) then (0:Int) else IntKind.i64.wrap ((l.l0.length:Int)-n))).toNat ((l.l0.length:Int)-(if (0:Int)>IntKind.i64.wrap ((l.l0.length:Int)-n) then (0:Int) else IntKind.i64.wrap ((l.l0.length:Int)-n))).toNat).drop ((if (0:Int)>IntKind.i64.wrap ((l.l0.length:Int)-n) then (0:Int) else IntKind.i64.wrap ((l.l0.length:Int)-n))).toNat).take ((l.l0.length:Int)-(if (0:Int)>IntKind.i64.wrap ((l.l0.length:Int)-n) then (0:Int) else IntKind.i64.wrap ((l.l0.length:Int)-n))).toNat).length<=zk) _
  refine⟨by rw[e1,e2,mv1];simp;have hs:l.l0.length+m.l0.length<=zk:=hsum;omega,?_⟩
  show AOb ((0:Int)<=0/\(0:Int)<3) _
  refine⟨by decide,?_⟩
  show AOb ((0:Int)<=0/\(0:Int)<3) _
  refine⟨by decide,?_⟩
  show AOb ((0:Int)<=(if (0:Int)>IntKind.i64.wrap ((l.l0.length:Int)-n) then (0:Int) else IntKind.i64.wrap ((l.l0.length:Int)-n))/\(if (0:Int)>IntKind.i64.wrap ((l.l0.length:Int)-n) then (0:Int) else IntKind.i64.wrap ((l.l0.length:Int)-n))<=((zcX l.l0 ((if (0:Int)>IntKind.i64.wrap ((l.l0.length:Int)-n) then (0:Int) else IntKind.i64.wrap ((l.l0.length:Int)-n))).toNat ((l.l0.length:Int)-(if (0:Int)>IntKind.i64.wrap ((l.l0.length:Int)-n) then (0:Int) else IntKind.i64.wrap ((l.l0.length:Int)-n))).toNat).length:Int)) _
  refine⟨by rw[e1,e2,hrl,hE];omega,?_⟩
  show AOb ((0:Int)<=0/\(0:Int)<3) _
  refine⟨by decide,?_⟩
  show ARet ..
  refine⟨[],[],[(l.set_ 0 ((l.at_ 0).take (leftOf (l.at_ 0).length n))).tv,(m.set_ 0 (m.at_ 0++((l.at_ 0).drop (leftOf (l.at_ 0).length n)).reverse)).tv,.int 0],.cons _ _ _ _ (.agg _ _ (.cons _ _ _ _ (.frzv (k:=.int) (l:=zcX l.l0 ((if (0:Int)>IntKind.i64.wrap ((l.l0.length:Int)-n) then (0:Int) else IntKind.i64.wrap ((l.l0.length:Int)-n))).toNat ((l.l0.length:Int)-(if (0:Int)>IntKind.i64.wrap ((l.l0.length:Int)-n) then (0:Int) else IntKind.i64.wrap ((l.l0.length:Int)-n))).toNat) rfl rfl ?_ ?_) (.cons _ _ _ _ (.frz _ _ rfl) (.cons _ _ _ _ (.frz _ _ rfl) .nil)))) (.cons _ _ _ _ (.agg _ _ (.cons _ _ _ _ (.frz_eq rfl ?_) (.cons _ _ _ _ (.frz _ _ rfl) (.cons _ _ _ _ (.frz _ _ rfl) .nil)))) (.cons _ _ _ _ .same .nil)),.nil,rfl,rfl,rfl⟩
  ·show 0+((if (0:Int)>IntKind.i64.wrap ((l.l0.length:Int)-n) then (0:Int) else IntKind.i64.wrap ((l.l0.length:Int)-n))-0).toNat<=(zcX l.l0 ((if (0:Int)>IntKind.i64.wrap ((l.l0.length:Int)-n) then (0:Int) else IntKind.i64.wrap ((l.l0.length:Int)-n))).toNat ((l.l0.length:Int)-(if (0:Int)>IntKind.i64.wrap ((l.l0.length:Int)-n) then (0:Int) else IntKind.i64.wrap ((l.l0.length:Int)-n))).toNat).length
   rw[e1,e2,hrl,hE];omega
  ·show((zcX l.l0 ((if (0:Int)>IntKind.i64.wrap ((l.l0.length:Int)-n) then (0:Int) else IntKind.i64.wrap ((l.l0.length:Int)-n))).toNat ((l.l0.length:Int)-(if (0:Int)>IntKind.i64.wrap ((l.l0.length:Int)-n) then (0:Int) else IntKind.i64.wrap ((l.l0.length:Int)-n))).toNat).drop 0).take ((if (0:Int)>IntKind.i64.wrap ((l.l0.length:Int)-n) then (0:Int) else IntKind.i64.wrap ((l.l0.length:Int)-n))-0).toNat=l.l0.take (leftOf l.l0.length n)
   rw[Int.sub_zero,e1,e2,List.drop_zero,mv2]
  ·show m.l0++((zcX l.l0 ((if (0:Int)>IntKind.i64.wrap ((l.l0.length:Int)-n) then (0:Int) else IntKind.i64.wrap ((l.l0.length:Int)-n))).toNat ((l.l0.length:Int)-(if (0:Int)>IntKind.i64.wrap ((l.l0.length:Int)-n) then (0:Int) else IntKind.i64.wrap ((l.l0.length:Int)-n))).toNat).drop ((if (0:Int)>IntKind.i64.wrap ((l.l0.length:Int)-n) then (0:Int) else IntKind.i64.wrap ((l.l0.length:Int)-n))).toNat).take ((l.l0.length:Int)-(if (0:Int)>IntKind.i64.wrap ((l.l0.length:Int)-n) then (0:Int) else IntKind.i64.wrap ((l.l0.length:Int)-n))).toNat=_
   rw[e1,e2,mv1]
   rfl
 ·have hm:l.l1.length<=68719476736:=hok.2.1
  have hE:(if (0:Int)>IntKind.i64.wrap ((l.l1.length:Int)-n) then (0:Int) else IntKind.i64.wrap ((l.l1.length:Int)-n))=((leftOf l.l1.length n:Nat):Int):=zog hm h0 h1
  have hlf:leftOf l.l1.length n<=l.l1.length:=by unfold leftOf;omega
  show ACall ..
  refine za (zct 1) rfl ?_
  show ABr (cond false true (decide (n<0))) _ _
  refine⟨fun hb=>absurd hb (by simp;omega),fun _=>?_⟩
  show ADCall ..
  refine .mk _ _ (zaG l hok) rfl ?_
  show ADCall ..
  refine .mk _ _ (zaG m hok') rfl ?_
  show AOb ((0:Int)<=1/\(1:Int)<3) _
  refine⟨by decide,?_⟩
  show AOb ((0:Int)<=1/\(1:Int)<3) _
  refine⟨by decide,?_⟩
  show AOb ((0:Int)<=(if (0:Int)>IntKind.i64.wrap ((l.l1.length:Int)-n) then (0:Int) else IntKind.i64.wrap ((l.l1.length:Int)-n))/\(if (0:Int)>IntKind.i64.wrap ((l.l1.length:Int)-n) then (0:Int) else IntKind.i64.wrap ((l.l1.length:Int)-n))<=(l.l1.length:Int)) _
  refine⟨by rw[hE];omega,?_⟩
  show ACall ..
  refine .hand [(449,16)] (zc8 l.l1) [.c (.view 16 ((if (0:Int)>IntKind.i64.wrap ((l.l1.length:Int)-n) then (0:Int) else IntKind.i64.wrap ((l.l1.length:Int)-n))).toNat ((l.l1.length:Int)-(if (0:Int)>IntKind.i64.wrap ((l.l1.length:Int)-n) then (0:Int) else IntKind.i64.wrap ((l.l1.length:Int)-n))).toNat)] _ (.cons _ _ _ _ (.c _ _ (.view _ _ _ _ rfl)) .nil) (.old 16 449 _ _ _ rfl rfl (.data_eq rfl) .nil) rfl (zdW l.l1 _ _ (by rw[hE];omega)) ?_
  rintro H r ⟨rfl,rfl⟩ _ _
  refine⟨rfl,.inr ⟨rfl,rfl⟩,?_⟩
  have e1:((if (0:Int)>IntKind.i64.wrap ((l.l1.length:Int)-n) then (0:Int) else IntKind.i64.wrap ((l.l1.length:Int)-n))).toNat=leftOf l.l1.length n:=by rw[hE];omega
  have e2:((l.l1.length:Int)-(if (0:Int)>IntKind.i64.wrap ((l.l1.length:Int)-n) then (0:Int) else IntKind.i64.wrap ((l.l1.length:Int)-n))).toNat=l.l1.length-leftOf l.l1.length n:=by rw[hE];omega
  obtain⟨mv1,mv2⟩:=zw7 l.l1 _ hlf
  have hrl:=zjx l.l1 (leftOf l.l1.length n) (l.l1.length-leftOf l.l1.length n) (by omega)
  show AOb ((0:Int)<=1/\(1:Int)<3) _
  refine⟨by decide,?_⟩
  show AOb (m.l1.length+(((zcX l.l1 ((if (0:Int)>IntKind.i64.wrap ((l.l1.length:Int)-n) then (0:Int) else IntKind.i64.wrap ((l.l1.length:Int)-n))).toNat ((l.l1.length:Int)-(if (0:Int)>IntKind.i64.wrap ((l.l1.length:Int)-n) then (0:Int) else IntKind.i64.wrap ((l.l1.length:Int)-n))).toNat).drop ((if (0:Int)>IntKind.i64.wrap ((l.l1.length:Int)-n) then (0:Int) else IntKind.i64.wrap ((l.l1.length:Int)-n))).toNat).take ((l.l1.length:Int)-(if (0:Int)>IntKind.i64.wrap ((l.l1.length:Int)-n) then (0:Int) else IntKind.i64.wrap ((l.l1.length:Int)-n))).toNat).length<=zk) _
  refine⟨by rw[e1,e2,mv1];simp;have hs:l.l1.length+m.l1.length<=zk:=hsum;omega,?_⟩
  show AOb ((0:Int)<=1/\(1:Int)<3) _
  refine⟨by decide,?_⟩
  show AOb ((0:Int)<=1/\(1:Int)<3) _
  refine⟨by decide,?_⟩
  show AOb ((0:Int)<=(if (0:Int)>IntKind.i64.wrap ((l.l1.length:Int)-n) then (0:Int) else IntKind.i64.wrap ((l.l1.length:Int)-n))/\(if (0:Int)>IntKind.i64.wrap ((l.l1.length:Int)-n) then (0:Int) else IntKind.i64.wrap ((l.l1.length:Int)-n))<=((zcX l.l1 ((if (0:Int)>IntKind.i64.wrap ((l.l1.length:Int)-n) then (0:Int) else IntKind.i64.wrap ((l.l1.length:Int)-n))).toNat ((l.l1.length:Int)-(if (0:Int)>IntKind.i64.wrap ((l.l1.length:Int)-n) then (0:Int) else IntKind.i64.wrap ((l.l1.length:Int)-n))).toNat).length:Int)) _
  refine⟨by rw[e1,e2,hrl,hE];omega,?_⟩
  show AOb ((0:Int)<=1/\(1:Int)<3) _
  refine⟨by decide,?_⟩
  show ARet ..
  refine⟨[],[],[(l.set_ 1 ((l.at_ 1).take (leftOf (l.at_ 1).length n))).tv,(m.set_ 1 (m.at_ 1++((l.at_ 1).drop (leftOf (l.at_ 1).length n)).reverse)).tv,.int 0],.cons _ _ _ _ (.agg _ _ (.cons _ _ _ _ (.frz _ _ rfl) (.cons _ _ _ _ (.frzv (k:=.int) (l:=zcX l.l1 ((if (0:Int)>IntKind.i64.wrap ((l.l1.length:Int)-n) then (0:Int) else IntKind.i64.wrap ((l.l1.length:Int)-n))).toNat ((l.l1.length:Int)-(if (0:Int)>IntKind.i64.wrap ((l.l1.length:Int)-n) then (0:Int) else IntKind.i64.wrap ((l.l1.length:Int)-n))).toNat) rfl rfl ?_ ?_) (.cons _ _ _ _ (.frz _ _ rfl) .nil)))) (.cons _ _ _ _ (.agg _ _ (.cons _ _ _ _ (.frz _ _ rfl) (.cons _ _ _ _ (.frz_eq rfl ?_) (.cons _ _ _ _ (.frz _ _ rfl) .nil)))) (.cons _ _ _ _ .same .nil)),.nil,rfl,rfl,rfl⟩
  ·show 0+((if (0:Int)>IntKind.i64.wrap ((l.l1.length:Int)-n) then (0:Int) else IntKind.i64.wrap ((l.l1.length:Int)-n))-0).toNat<=(zcX l.l1 ((if (0:Int)>IntKind.i64.wrap ((l.l1.length:Int)-n) then (0:Int) else IntKind.i64.wrap ((l.l1.length:Int)-n))).toNat ((l.l1.length:Int)-(if (0:Int)>IntKind.i64.wrap ((l.l1.length:Int)-n) then (0:Int) else IntKind.i64.wrap ((l.l1.length:Int)-n))).toNat).length
   rw[e1,e2,hrl,hE];omega
  ·show((zcX l.l1 ((if (0:Int)>IntKind.i64.wrap ((l.l1.length:Int)-n) then (0:Int) else IntKind.i64.wrap ((l.l1.length:Int)-n))).toNat ((l.l1.length:Int)-(if (0:Int)>IntKind.i64.wrap ((l.l1.length:Int)-n) then (0:Int) else IntKind.i64.wrap ((l.l1.length:Int)-n))).toNat).drop 0).take ((if (0:Int)>IntKind.i64.wrap ((l.l1.length:Int)-n) then (0:Int) else IntKind.i64.wrap ((l.l1.length:Int)-n))-0).toNat=l.l1.take (leftOf l.l1.length n)
   rw[Int.sub_zero,e1,e2,List.drop_zero,mv2]
  ·show m.l1++((zcX l.l1 ((if (0:Int)>IntKind.i64.wrap ((l.l1.length:Int)-n) then (0:Int) else IntKind.i64.wrap ((l.l1.length:Int)-n))).toNat ((l.l1.length:Int)-(if (0:Int)>IntKind.i64.wrap ((l.l1.length:Int)-n) then (0:Int) else IntKind.i64.wrap ((l.l1.length:Int)-n))).toNat).drop ((if (0:Int)>IntKind.i64.wrap ((l.l1.length:Int)-n) then (0:Int) else IntKind.i64.wrap ((l.l1.length:Int)-n))).toNat).take ((l.l1.length:Int)-(if (0:Int)>IntKind.i64.wrap ((l.l1.length:Int)-n) then (0:Int) else IntKind.i64.wrap ((l.l1.length:Int)-n))).toNat=_
   rw[e1,e2,mv1]
   rfl
 ·have hm:l.l2.length<=68719476736:=hok.2.2
  have hE:(if (0:Int)>IntKind.i64.wrap ((l.l2.length:Int)-n) then (0:Int) else IntKind.i64.wrap ((l.l2.length:Int)-n))=((leftOf l.l2.length n:Nat):Int):=zog hm h0 h1
  have hlf:leftOf l.l2.length n<=l.l2.length:=by unfold leftOf;omega
  show ACall ..
  refine za (zct 2) rfl ?_
  show ABr (cond false true (decide (n<0))) _ _
  refine⟨fun hb=>absurd hb (by simp;omega),fun _=>?_⟩
  show ADCall ..
  refine .mk _ _ (zaG l hok) rfl ?_
  show ADCall ..
  refine .mk _ _ (zaG m hok') rfl ?_
  show AOb ((0:Int)<=2/\(2:Int)<3) _
  refine⟨by decide,?_⟩
  show AOb ((0:Int)<=2/\(2:Int)<3) _
  refine⟨by decide,?_⟩
  show AOb ((0:Int)<=(if (0:Int)>IntKind.i64.wrap ((l.l2.length:Int)-n) then (0:Int) else IntKind.i64.wrap ((l.l2.length:Int)-n))/\(if (0:Int)>IntKind.i64.wrap ((l.l2.length:Int)-n) then (0:Int) else IntKind.i64.wrap ((l.l2.length:Int)-n))<=(l.l2.length:Int)) _
  refine⟨by rw[hE];omega,?_⟩
  show ACall ..
  refine .hand [(450,16)] (zc8 l.l2) [.c (.view 16 ((if (0:Int)>IntKind.i64.wrap ((l.l2.length:Int)-n) then (0:Int) else IntKind.i64.wrap ((l.l2.length:Int)-n))).toNat ((l.l2.length:Int)-(if (0:Int)>IntKind.i64.wrap ((l.l2.length:Int)-n) then (0:Int) else IntKind.i64.wrap ((l.l2.length:Int)-n))).toNat)] _ (.cons _ _ _ _ (.c _ _ (.view _ _ _ _ rfl)) .nil) (.old 16 450 _ _ _ rfl rfl (.data_eq rfl) .nil) rfl (zdW l.l2 _ _ (by rw[hE];omega)) ?_
  rintro H r ⟨rfl,rfl⟩ _ _
  refine⟨rfl,.inr ⟨rfl,rfl⟩,?_⟩
  have e1:((if (0:Int)>IntKind.i64.wrap ((l.l2.length:Int)-n) then (0:Int) else IntKind.i64.wrap ((l.l2.length:Int)-n))).toNat=leftOf l.l2.length n:=by rw[hE];omega
  have e2:((l.l2.length:Int)-(if (0:Int)>IntKind.i64.wrap ((l.l2.length:Int)-n) then (0:Int) else IntKind.i64.wrap ((l.l2.length:Int)-n))).toNat=l.l2.length-leftOf l.l2.length n:=by rw[hE];omega
  obtain⟨mv1,mv2⟩:=zw7 l.l2 _ hlf
  have hrl:=zjx l.l2 (leftOf l.l2.length n) (l.l2.length-leftOf l.l2.length n) (by omega)
  show AOb ((0:Int)<=2/\(2:Int)<3) _
  refine⟨by decide,?_⟩
  show AOb (m.l2.length+(((zcX l.l2 ((if (0:Int)>IntKind.i64.wrap ((l.l2.length:Int)-n) then (0:Int) else IntKind.i64.wrap ((l.l2.length:Int)-n))).toNat ((l.l2.length:Int)-(if (0:Int)>IntKind.i64.wrap ((l.l2.length:Int)-n) then (0:Int) else IntKind.i64.wrap ((l.l2.length:Int)-n))).toNat).drop ((if (0:Int)>IntKind.i64.wrap ((l.l2.length:Int)-n) then (0:Int) else IntKind.i64.wrap ((l.l2.length:Int)-n))).toNat).take ((l.l2.length:Int)-(if (0:Int)>IntKind.i64.wrap ((l.l2.length:Int)-n) then (0:Int) else IntKind.i64.wrap ((l.l2.length:Int)-n))).toNat).length<=zk) _
  refine⟨by rw[e1,e2,mv1];simp;have hs:l.l2.length+m.l2.length<=zk:=hsum;omega,?_⟩
  show AOb ((0:Int)<=2/\(2:Int)<3) _
  refine⟨by decide,?_⟩
  show AOb ((0:Int)<=2/\(2:Int)<3) _
  refine⟨by decide,?_⟩
  show AOb ((0:Int)<=(if (0:Int)>IntKind.i64.wrap ((l.l2.length:Int)-n) then (0:Int) else IntKind.i64.wrap ((l.l2.length:Int)-n))/\(if (0:Int)>IntKind.i64.wrap ((l.l2.length:Int)-n) then (0:Int) else IntKind.i64.wrap ((l.l2.length:Int)-n))<=((zcX l.l2 ((if (0:Int)>IntKind.i64.wrap ((l.l2.length:Int)-n) then (0:Int) else IntKind.i64.wrap ((l.l2.length:Int)-n))).toNat ((l.l2.length:Int)-(if (0:Int)>IntKind.i64.wrap ((l.l2.length:Int)-n) then (0:Int) else IntKind.i64.wrap ((l.l2.length:Int)-n))).toNat).length:Int)) _
  refine⟨by rw[e1,e2,hrl,hE];omega,?_⟩
  show AOb ((0:Int)<=2/\(2:Int)<3) _
  refine⟨by decide,?_⟩
  show ARet ..
  refine⟨[],[],[(l.set_ 2 ((l.at_ 2).take (leftOf (l.at_ 2).length n))).tv,(m.set_ 2 (m.at_ 2++((l.at_ 2).drop (leftOf (l.at_ 2).length n)).reverse)).tv,.int 0],.cons _ _ _ _ (.agg _ _ (.cons _ _ _ _ (.frz _ _ rfl) (.cons _ _ _ _ (.frz _ _ rfl) (.cons _ _ _ _ (.frzv (k:=.int) (l:=zcX l.l2 ((if (0:Int)>IntKind.i64.wrap ((l.l2.length:Int)-n) then (0:Int) else IntKind.i64.wrap ((l.l2.length:Int)-n))).toNat ((l.l2.length:Int)-(if (0:Int)>IntKind.i64.wrap ((l.l2.length:Int)-n) then (0:Int) else IntKind.i64.wrap ((l.l2.length:Int)-n))).toNat) rfl rfl ?_ ?_) .nil)))) (.cons _ _ _ _ (.agg _ _ (.cons _ _ _ _ (.frz _ _ rfl) (.cons _ _ _ _ (.frz _ _ rfl) (.cons _ _ _ _ (.frz_eq rfl ?_) .nil)))) (.cons _ _ _ _ .same .nil)),.nil,rfl,rfl,rfl⟩
  ·show 0+((if (0:Int)>IntKind.i64.wrap ((l.l2.length:Int)-n) then (0:Int) else IntKind.i64.wrap ((l.l2.length:Int)-n))-0).toNat<=(zcX l.l2 ((if (0:Int)>IntKind.i64.wrap ((l.l2.length:Int)-n) then (0:Int) else IntKind.i64.wrap ((l.l2.length:Int)-n))).toNat ((l.l2.length:Int)-(if (0:Int)>IntKind.i64.wrap ((l.l2.length:Int)-n) then (0:Int) else IntKind.i64.wrap ((l.l2.length:Int)-n))).toNat).length
   rw[e1,e2,hrl,hE];omega
  ·show((zcX l.l2 ((if (0:Int)>IntKind.i64.wrap ((l.l2.length:Int)-n) then (0:Int) else IntKind.i64.wrap ((l.l2.length:Int)-n))).toNat ((l.l2.length:Int)-(if (0:Int)>IntKind.i64.wrap ((l.l2.length:Int)-n) then (0:Int) else IntKind.i64.wrap ((l.l2.length:Int)-n))).toNat).drop 0).take ((if (0:Int)>IntKind.i64.wrap ((l.l2.length:Int)-n) then (0:Int) else IntKind.i64.wrap ((l.l2.length:Int)-n))-0).toNat=l.l2.take (leftOf l.l2.length n)
   rw[Int.sub_zero,e1,e2,List.drop_zero,mv2]
  ·show m.l2++((zcX l.l2 ((if (0:Int)>IntKind.i64.wrap ((l.l2.length:Int)-n) then (0:Int) else IntKind.i64.wrap ((l.l2.length:Int)-n))).toNat ((l.l2.length:Int)-(if (0:Int)>IntKind.i64.wrap ((l.l2.length:Int)-n) then (0:Int) else IntKind.i64.wrap ((l.l2.length:Int)-n))).toNat).drop ((if (0:Int)>IntKind.i64.wrap ((l.l2.length:Int)-n) then (0:Int) else IntKind.i64.wrap ((l.l2.length:Int)-n))).toNat).take ((l.l2.length:Int)-(if (0:Int)>IntKind.i64.wrap ((l.l2.length:Int)-n) then (0:Int) else IntKind.i64.wrap ((l.l2.length:Int)-n))).toNat=_
   rw[e1,e2,mv1]
   rfl
def Lists.flat (l:Lists):List Int:=l.l0++l.l1++l.l2
def zn (L:List Lists):List Int:=L.flatMap Lists.flat
theorem zr4 (L:List Lists) (i:Nat) (h:i<L.length):zn (L.take (i+1))=zn (L.take i)++(L.getD i default).flat:=by
 unfold zn
 rw[List.take_add_one,List.getElem?_eq_getElem h,List.flatMap_append,List.getD_eq_getElem?_getD,List.getElem?_eq_getElem h]
 simp
theorem zv4 (L:List Lists) (i:Nat):(zn (L.take i)).length<=(zn L).length:=by
 have:zn L=zn (L.take i)++zn (L.drop i):=by
  unfold zn
  rw[←List.flatMap_append,List.take_append_drop]
 rw[this,List.length_append]
 omega
theorem zq7 (L:List Lists) (h:(zn L).length<=zk):Spec X 105 [] [.c (.d (.sl .lists L))] (Ret [(0,.data .int (zn L))] (.c (.own 0))):=by
 refine zGO X_ok Tryz.f105 fun hb _=>⟨rfl,?_⟩
 have hmax:L.length<=zE:=(hb (.c (.d (.sl .lists L))) (by simp)).1
 show ∃n,_
 refine⟨0,ALoop.inv (ι:={i:Nat // i<=L.length}) (fun i=>⟨[(3,.c (.own 1)),(6,.c (.d (.sl .lists L))),(7,.int L.length),(8,.int i.1)],[(1,.data .int (zn (L.take i.1)))],32⟩) (fun i=>L.length-i.1) ⟨0,Nat.zero_le _⟩ ?_ ?_⟩
 ·exact⟨[],.cons _ _ _ (.c _ _ (.nilown 1 .int rfl rfl)) (.cons _ _ _ .same (.cons _ _ _ .same (.cons _ _ _ .same .nil))),.new 1 .int _ rfl .nil,rfl⟩
 ·rintro⟨i,hi⟩
  show ABr (decide ((i:Int)<(L.length:Int))) _ _
  refine⟨fun h2=>?_,fun h2=>?_⟩
  ·have hlt:i<L.length:=by simpa using h2
   have hstep:=zr4 L i hlt
   have hle:=zv4 L (i+1)
   have hlen:(zn (L.take (i+1))).length=(zn (L.take i)).length+(L.getD i default).flat.length:=by rw[hstep,List.length_append]
   have hfl:(L.getD i default).flat.length=(L.getD i default).l0.length+(L.getD i default).l1.length+(L.getD i default).l2.length:=by simp[Lists.flat];omega
   show AOb ((0:Int)<=(i:Int)/\(i:Int)<(L.length:Int)) _
   refine⟨by omega,?_⟩
   show ACall ..
   refine .mk _ (zoF (L.getD i default).l0 (L.getD i default).l1 (L.getD i default).l2 (by omega)) ?_
   rintro H r ⟨rfl,rfl⟩ _ _
   refine⟨.inr ⟨rfl,rfl⟩,?_⟩
   show AOb ((zn (L.take i)).length+(L.getD i default).flat.length<=zk) _
   refine⟨by omega,?_⟩
   show ARound ..
   exact⟨⟨i+1,hlt⟩,Nat.sub_lt_sub_left hlt (Nat.lt_succ_self i),[(_,1)],.cons _ _ _ (.c _ _ (.own1 _ _)) (.cons _ _ _ .same (.cons _ _ _ .same (.cons _ _ _ (.int_eq (zad (i:=i) (by omega))) .nil))),.old 1 _ _ _ _ rfl rfl (.data_eq hstep.symm) .nil,rfl⟩
  ·have hge:i=L.length:=by simp at h2;omega
   show ARet ..
   refine⟨[(_,0)],[(0,.data .int (zn L))],[.c (.own 0)],.cons _ _ _ _ (.c _ _ (.own1 _ _)) .nil,.old 0 _ _ _ _ rfl rfl (.data_eq ?_) .nil,rfl,rfl,rfl⟩
   show zn (L.take i)=zn L
   rw[hge,List.take_length]
theorem zcT {l:List Int} {i:Nat} (h:i<l.length):at0 l i=l[i]:=by
 unfold at0
 rw[List.getD_eq_getElem?_getD,List.getElem?_eq_getElem h]
 rfl
theorem zuT {l:List Int} (hs:zkb l 0 l.length):zvP l l.length↔l.Nodup:=by
 unfold List.Nodup
 rw[List.pairwise_iff_getElem]
 constructor
 ·intro h i j hi hj hij
  have h1:=h i (by omega)
  have h2:=hs i (i+1) (Nat.zero_le _) (by omega) (by omega)
  have h3:at0 l (i+1)<=at0 l j:=by
   by_cases e:i+1=j
   ·subst e;exact Int.le_refl _
   ·exact hs (i+1) j (Nat.zero_le _) (by omega) hj
  rw[←zcT hi,←zcT hj]
  omega
 ·intro h i hi
  rw[zcT (by omega),zcT hi]
  exact h i (i+1) (by omega) hi (by omega)
theorem zxe (L:List Lists) (h:(zn L).length<=zk) (hs:Spec X 90 (zc8 (zn L)) [.c (.own 16)] (zlO (zn L) 0 (zn L).length)):Spec X 60 [] [.c (.d (.sl .lists L))] (Ret [] (.bo (decide (zn L).Nodup))):=by
 refine zGO X_ok Tryz.f60 fun hb _=>⟨rfl,?_⟩
 show ACall ..
 refine .mk _ (zq7 L h) ?_
 rintro H r ⟨rfl,rfl⟩ _ _
 refine⟨.inl rfl,?_⟩
 show ACall ..
 refine .hand [(_,16)] (zc8 (zn L)) [.c (.own 16)] _ (.cons _ _ _ _ (.c _ _ (.own1 _ _)) .nil) (.old 16 _ _ _ _ rfl rfl (.data_eq rfl) .nil) rfl hs ?_
 rintro H r ⟨rfl,l',rfl,hsr,hso⟩ _ _
 refine⟨rfl,.inr ⟨rfl,rfl⟩,?_⟩
 show ACall ..
 refine .hand [(_,16)] (zc8 l') [.c (.own 16)] _ (.cons _ _ _ _ (.c _ _ (.own1 _ _)) .nil) (.old 16 _ _ _ _ rfl rfl (.data_eq rfl) .nil) rfl (zol l') ?_
 rintro H r ⟨m,n,rfl,rfl,hnm,hml,hiff⟩ _ _
 refine⟨rfl,.inr ⟨rfl,rfl⟩,?_⟩
 show ARet ..
 refine zt (x:=decide ((n:Int)=((zn L).length:Int))) ?_ ⟨rfl,rfl⟩
 have hl:l'.length=(zn L).length:=hsr.len
 rw[←hl]at hso
 have key:n=l'.length↔(zn L).Nodup:=hiff.trans ((zuT hso).trans hsr.perm.nodup_iff)
 rw[decide_eq_decide,←key]
 omega
theorem zrF (L:List Lists) (h:(zn L).length<=zk):Spec X 60 [] [.c (.d (.sl .lists L))] (Ret [] (.bo (decide (zn L).Nodup))):=
 zxe L h (zuy (zn L))
end Go.Abs
