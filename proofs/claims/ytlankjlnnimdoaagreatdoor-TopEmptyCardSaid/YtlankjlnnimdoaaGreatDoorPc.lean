/- Walks and plain laws: WHeap4, WCards, WShade, WPart, WBegins, WDrop. -/
import Derived.Test.YtlankjlnnimdoaaGreatDoorPb
import Derived.Test.YtlankjlnnimdoaaGreatDoorPa
set_option linter.all false
namespace Go.Abs
open Go.Proofs Go.Proofs.YtlankjlnnimdoaaGreatDoor
set_option maxRecDepth 8000
def zC (h:Hp):Bool:=zbo h.w&&(zar h.pages&&decide (h.w.length=16*h.pages.length/\h.cards.length=2*h.pages.length))
def zf (h:Hp) (a:Int):Int:=at0 h.w (a-16).toNat
def zO (h:Hp) (a:Int):Page:=h.pages.getD (a / 16-1).toNat default
def zjj (p:Page) (n:Int):Bool:=bif decide (p.kind=2) then decide (ziZ n=0/\zaV n=p.arg) else decide (zaM n=0/\clsOf n=p.arg)
def zau (h:Hp) (c a:Int):Bool:=decide (0<ze h.pages a/\zO h a=⟨1,c⟩/\zf h a=0)
def zaf (h:Hp) (l:Lists):Bool:=l.l0.all (zau h 0)&&(l.l1.all (zau h 1)&&l.l2.all (zau h 2))
def zaC (h:Hp) (a:Int):Bool:=zjM (zf h a)&&(bif (unp (zf h a)).used then zjj (zO h a) (unp (zf h a)).n else decide ((zO h a).kind=1))
abbrev zeL (h:Hp) (cs:List Lists):List Lists:=h.free::cs
def zx (h:Hp) (cs:List Lists):Bool:=zC h&&((h.free::cs).all (zaf h)&&((cellStarts h.pages).all (zaC h)&&decide (zn (h.free::cs)).Nodup))
def zq (h:Hp) (cs:List Lists):Bool:=zx h cs&&(cellStarts h.pages).all fun a=>zf h a != 0 || (zn (h.free::cs)).contains a
def adr (h:Hp) (a:Int):Prop:=16<=a/\a<16*((h.pages.length:Int)+1)
theorem zl {h:Hp} (hs:zC h=true):zbo h.w=true/\zar h.pages=true/\h.w.length=16*h.pages.length/\h.cards.length=2*h.pages.length/\1<=h.pages.length/\h.pages.length<=64:=by
 unfold zC at hs
 simp only[Bool.and_eq_true,decide_eq_true_eq]at hs
 have:=(zab hs.2.1).2
 exact⟨hs.1,hs.2.1,hs.2.2.1,hs.2.2.2,this.1,this.2⟩
theorem zaL {h:Hp} {a:Int} (hr:ze h.pages a≠0):adr h a:=by
 obtain⟨_,i,hi⟩:=zap (zz hr)
 have h1:=hi.lo
 have h2:=hi.hi
 have h3:=hi.lt
 simp only at h1 h2
 exact⟨by omega,by omega⟩
theorem wlen {l:List Int} (h:l.length<=zE):(l.length:Int)<140737488355329:=by unfold zE at h;omega
theorem zfM (h:Hp) (a:Int) (hs:h.w.length=16*h.pages.length) (ha:adr h a):Spec X 30 [] [h.tv,.int a] (Ret [] (.int (zf h a))):=by
 refine zGO X_ok Tryz.f30 fun hb hH=>⟨rfl,?_⟩
 obtain⟨h1,h2⟩:=ha
 have hla:h.w.length<=zE:=((hb (h.tv) (by simp)) (.d (.sl .int h.w)) (by simp[Hp.enc])).1
 have hl:=wlen hla
 have ew:IntKind.i64.wrap (a-16)=a-16:=zB (by omega) (by omega)
 show AOb ((0:Int)<=IntKind.i64.wrap (a-16)/\IntKind.i64.wrap (a-16)<(h.w.length:Int)) _
 rw[ew]
 refine⟨by omega,?_⟩
 show ARet ..
 exact zi rfl ⟨rfl,rfl⟩
theorem zn5 (h:Hp) (a:Int) (hs:h.w.length=16*h.pages.length) (ha:adr h a):Spec X 56 [] [h.tv,.int a] (Ret [] (.dagg (EK.enc .page (zO h a)))):=by
 refine zGO X_ok Tryz.f56 fun hb hH=>⟨rfl,?_⟩
 obtain⟨h1,h2⟩:=ha
 have hla:h.w.length<=zE:=((hb (h.tv) (by simp)) (.d (.sl .int h.w)) (by simp[Hp.enc])).1
 have hl:=wlen hla
 have e1:tdv a 16=a / 16:=zmP (by omega) (by omega) (by omega)
 have ew:IntKind.i64.wrap (tdv a 16-1)=a / 16-1:=by rw[e1];exact zB (by omega) (by omega)
 show AOb ..
 refine⟨by decide,?_⟩
 show AOb ((0:Int)<=IntKind.i64.wrap (tdv a 16-1)/\IntKind.i64.wrap (tdv a 16-1)<(h.pages.length:Int)) _
 refine⟨by rw[ew];omega,?_⟩
 show ARet _ _ [.agg [.d (DV.int (h.pages.getD (IntKind.i64.wrap (tdv a 16-1)).toNat default).kind),.d (DV.int (h.pages.getD (IntKind.i64.wrap (tdv a 16-1)).toNat default).arg)]]
 rw[ew]
 exact zi rfl ⟨rfl,rfl⟩
theorem zdD {p q:Prop} [Decidable p] [Decidable q]:decide (p/\q)=(decide p&&decide q):=by simp
theorem zzt (n:Nat) (h:n<=zE):tdv (n:Int) 8=((n / 8:Nat):Int):=zt0 n 8 h
theorem zqJ (h:Hp):Spec X 54 [] [h.tv] (Ret [] (.bo (zC h))):=by
 refine zGO X_ok Tryz.f54 fun hb hH=>⟨rfl,?_⟩
 have hla:h.w.length<=zE:=((hb (h.tv) (by simp)) (.d (.sl .int h.w)) (by simp[Hp.enc])).1
 have hlp:h.pages.length<=zE:=((hb (h.tv) (by simp)) (.d (.sl .page h.pages)) (by simp[Hp.enc])).1
 have hlc:h.cards.length<=zE:=((hb (h.tv) (by simp)) (.d (.sl .bool h.cards)) (by simp[Hp.enc])).1
 have w1:=wlen hla
 have w2:IntKind.i64.wrap (16*(h.pages.length:Int))=16*(h.pages.length:Int):=zB (by omega) (by unfold zE at hlp;omega)
 have w3:=zzt h.w.length hla
 show ACall ..
 refine za (zfA h.w) rfl ?_
 show AIf (zbo h.w=true/\True) _ _
 refine⟨fun h1=>?_,fun h1=>?_⟩
 ·show ACall ..
  refine za (zdk h.pages) rfl ?_
  show AOb ..
  refine⟨by simp,?_⟩
  show ARet ..
  refine zt (x:=bif (bif zar h.pages then (h.w.length:Int)==IntKind.i64.wrap (16*(h.pages.length:Int)) else false) then (h.cards.length:Int)==tdv (h.w.length:Int) 8 else false) ?_ ⟨rfl,rfl⟩
  rw[w2,w3]
  unfold zC
  rw[h1.1]
  have hw:=of_decide_eq_true h1.1
  cases zar h.pages with
  |false=>rfl
  |true=>
   simp only[cond_true,Bool.true_and,zdD]
   by_cases e1:h.w.length=16*h.pages.length
   ·have e2:((h.w.length:Int)==16*(h.pages.length:Int))=true:=by rw[beq_iff_eq];omega
    rw[e2,decide_eq_true e1]
    by_cases e3:h.cards.length=2*h.pages.length
    ·rw[decide_eq_true e3];simp;omega
    ·rw[decide_eq_false e3];simp;omega
   ·have e2:((h.w.length:Int)==16*(h.pages.length:Int))=false:=by rw[beq_eq_false_iff_ne];omega
    rw[e2,decide_eq_false e1]
    rfl
 ·have h1:zbo h.w=false:=Bool.eq_false_iff.2 fun h'=>h1 ⟨h',trivial⟩
  show AOb (zbo h.w=false) _
  refine⟨h1,?_⟩
  show AOb ..
  refine⟨by simp,?_⟩
  show ARet ..
  refine zt (x:=false) ?_ ⟨rfl,rfl⟩
  unfold zC
  rw[h1]
  rfl
theorem zuF (p:Page) (n:Int) (hn:n<=9223372036854775807):Spec X 57 [] [.dagg (EK.enc .page p),.int n] (Ret [] (.bo (zjj p n))):=by
 refine zGO X_ok Tryz.f57 fun hb hH=>⟨rfl,?_⟩
 unfold zjj
 show ABr (decide (p.kind=2)) _ _
 refine⟨fun h=>?_,fun h=>?_⟩
 ·rw[h]
  show ACall ..
  refine za (znI n hn) rfl ?_
  show ARet ..
  refine zt (x:=bif decide (ziZ n=0) then decide (zaV n=p.arg) else false) ?_ ⟨rfl,rfl⟩
  rw[cond_true,zdD]
  cases decide (ziZ n=0)<;>rfl
 ·rw[h]
  show ACall ..
  refine za (ziN n) rfl ?_
  show ARet ..
  refine zt (x:=bif decide (zaM n=0) then decide (clsOf n=p.arg) else false) ?_ ⟨rfl,rfl⟩
  rw[cond_false,zdD]
  cases decide (zaM n=0)<;>rfl
theorem zyc (p:Page) (k c:Int):(p.kind==k&&(p.arg==c&&true))=decide (p=⟨k,c⟩):=by
 obtain⟨a,b⟩:=p
 by_cases h1:a=k<;>by_cases h2:b=c<;>simp[h1,h2]
theorem zfW (h:Hp) (c a:Int) (hs:zC h=true):Spec X 102 [] (.int a::zdi [.rp h.enc,.rp [DV.int c]]) (Ret [] (.bo (zau h c a))):=by
 obtain⟨_,_,hsl,_⟩:=zl hs
 refine zGO X_ok Tryz.f102 fun hb hH=>⟨rfl,?_⟩
 show ADCall ..
 refine .mk _ _ (zfl h.pages a) rfl ?_
 unfold zau
 show ABr (decide (ze h.pages a>0)) _ _
 refine⟨fun h1=>?_,fun h1=>?_⟩
 ·have h1:0<ze h.pages a:=of_decide_eq_true h1
  have had:=zaL (h:=h) (a:=a) (by omega)
  show ADCall ..
  refine .mk _ _ (zn5 h a hsl had) rfl ?_
  show ABr ((zO h a).kind==1&&((zO h a).arg==c&&true)) _ _
  rw[zyc]
  refine⟨fun h2=>?_,fun h2=>?_⟩
  ·show ADCall ..
   refine .mk _ _ (zfM h a hsl had) rfl ?_
   show ARet ..
   refine zt (x:=zf h a==0) ?_ ⟨rfl,rfl⟩
   have h2:=of_decide_eq_true h2
   by_cases h3:zf h a=0<;>simp[h1,h2,h3]
  ·show ARet ..
   refine zt (x:=false) ?_ ⟨rfl,rfl⟩
   have h2:=of_decide_eq_false h2
   simp[h2]
 ·have h1:=of_decide_eq_false h1
  refine zNO (by decide) ?_
  show ARet ..
  refine zt (x:=false) ?_ ⟨rfl,rfl⟩
  have h2:¬0<ze h.pages a:=by omega
  simp[h2]
theorem zqR (g:Hp) (l:Lists) (hs:zC g=true):Spec X 58 [] [g.tv,l.tv] (Ret [] (.bo (zaf g l))):=by
 refine zGO X_ok Tryz.f58 fun hb hH=>⟨rfl,?_⟩
 unfold zaf
 show ∃n,_
 refine⟨4,?_⟩
 show ALoop ..
 refine .next ?_
 refine zYE (by decide) ?_
 show AOb ..
 refine⟨by decide,?_⟩
 show ACall ..
 refine za (zei l.l0 102 [.rp g.enc,.rp [DV.int 0]] (zau g 0) (fun x _=>zfW g 0 x hs)) rfl ?_
 show ABr (!l.l0.all (zau g 0)) _ _
 refine⟨fun h=>?_,fun h=>?_⟩
 ·have h0:l.l0.all (zau g 0)=false:=by simpa using h
  rw[h0]
  show ARet ..
  exact zi rfl ⟨rfl,rfl⟩
 have h0:l.l0.all (zau g 0)=true:=by simpa using h
 rw[h0]
 show ALoop ..
 refine .next ?_
 refine zYE (by decide) ?_
 show AOb ..
 refine⟨by decide,?_⟩
 show ACall ..
 refine za (zei l.l1 102 [.rp g.enc,.rp [DV.int 1]] (zau g 1) (fun x _=>zfW g 1 x hs)) rfl ?_
 show ABr (!l.l1.all (zau g 1)) _ _
 refine⟨fun h=>?_,fun h=>?_⟩
 ·have h1:l.l1.all (zau g 1)=false:=by simpa using h
  rw[h1]
  show ARet ..
  exact zi rfl ⟨rfl,rfl⟩
 have h1:l.l1.all (zau g 1)=true:=by simpa using h
 rw[h1]
 show ALoop ..
 refine .next ?_
 refine zYE (by decide) ?_
 show AOb ..
 refine⟨by decide,?_⟩
 show ACall ..
 refine za (zei l.l2 102 [.rp g.enc,.rp [DV.int 2]] (zau g 2) (fun x _=>zfW g 2 x hs)) rfl ?_
 show ABr (!l.l2.all (zau g 2)) _ _
 refine⟨fun h=>?_,fun h=>?_⟩
 ·have h2:l.l2.all (zau g 2)=false:=by simpa using h
  rw[h2]
  show ARet ..
  exact zi rfl ⟨rfl,rfl⟩
 have h2:l.l2.all (zau g 2)=true:=by simpa using h
 rw[h2]
 show ALoop ..
 refine .next ?_
 refine zNO (by decide) ?_
 show ARet ..
 exact zi rfl ⟨rfl,rfl⟩
theorem zzr (w:Int):(unp w).n<=63:=by
 unfold unp
 split
 ·rename_i h;exact(zjV h).1.2
 ·decide
theorem ztg (h:Hp) (a:Int) (hs:zC h=true) (ha:adr h a):Spec X 55 [] (.int a::zdi [.rp h.enc]) (Ret [] (.bo (zaC h a))):=by
 obtain⟨_,_,hsl,_⟩:=zl hs
 refine zGO X_ok Tryz.f55 fun hb hH=>⟨rfl,?_⟩
 show ACall ..
 refine za (zfM h a hsl ha) rfl ?_
 show ACall ..
 refine za (zi3 (zf h a)) rfl ?_
 show ACall ..
 refine za (zn5 h a hsl ha) rfl ?_
 have hn:=zzr (zf h a)
 unfold zaC
 generalize hu:unp (zf h a)=u at hn
 show AIf (u.used=true/\(bif !u.used then (zO h a).kind==1 else false)=false/\zjM (zf h a)=true/\True) _ _
 refine⟨fun h1=>?_,fun h1=>?_⟩
 ·show ACall ..
  refine za (zuF (zO h a) u.n (by omega)) rfl ?_
  show ARet ..
  refine zt (x:=bif zjM (zf h a) then (bif (bif !u.used then (zO h a).kind==1 else false) then true else zjj (zO h a) u.n) else false) ?_ ⟨rfl,rfl⟩
  rw[h1.2.2.1,h1.1]
  rfl
 ·show AOb ..
  refine⟨by exact fun⟨g1,g2,_⟩=>Bool.eq_false_iff.2 fun g3=>h1 ⟨g3,g1,g2,trivial⟩,?_⟩
  show ARet ..
  refine zt (x:=bif zjM (zf h a) then (bif (bif !u.used then (zO h a).kind==1 else false) then true else false) else false) ?_ ⟨rfl,rfl⟩
  cases hi:zjM (zf h a) with
  |false=>rfl
  |true=>
   cases hud:u.used with
   |true=>exact absurd ⟨hud,by rw[hud];rfl,hi,trivial⟩ h1
   |false=>
    simp only[cond_true,cond_false,Bool.true_and,Bool.not_false]
    by_cases hk:(zO h a).kind=1<;>simp[hk]
theorem zfq {h:Hp} {a:Int} (ha:a∈cellStarts h.pages):adr h a:=zaL (zw.1 ha)
theorem zeg (g:Hp) (cs:List Lists) (hm:(zn (zeL g cs)).length<=zk) (hc:cs.length<zk):Spec X 26 [] [g.tv,.c (.d (.sl .lists cs))] (Ret [] (.bo (zx g cs))):=by
 refine zGO X_ok Tryz.f26 fun hb hH=>⟨rfl,?_⟩
 unfold zx
 show ACall ..
 refine za (zqJ g) rfl ?_
 show ABr (!zC g) _ _
 refine⟨fun h=>?_,fun h=>?_⟩
 ·have hs:zC g=false:=by simpa using h
  rw[hs]
  show ARet ..
  exact zi rfl ⟨rfl,rfl⟩
 have hs:zC g=true:=by simpa using h
 rw[hs]
 show AOb (1+cs.length<=zk) _
 refine⟨by omega,?_⟩
 obtain⟨L,hL⟩:∃L:List Lists,L=g.free::cs:=⟨_,rfl⟩
 have hlen:L.length<=zk:=by rw[hL,List.length_cons];omega
 unfold zk at hlen
 show ∃n,_
 refine⟨0,ALoop.inv (ι:={i:Nat // i<=L.length/\L.all (zaf g)=(L.drop i).all (zaf g)}) (fun i=>⟨[(2,.c (.d (.rp g.enc))),(5,.c (.d (.fn 55 [] [.rp g.enc]))),(6,.c (.d (.sl .lists L))),(18,.c (.d (.sl .lists L))),(19,.int L.length),(20,.int i.1)],[],32⟩) (fun i=>L.length-i.1) ⟨0,Nat.zero_le _,by rw[List.drop_zero]⟩ ?_ ?_⟩
 ·exact⟨[],.cons _ _ _ (.c _ _ (.frz _ _ rfl)) (.cons _ _ _ (.c _ _ (.frz _ _ rfl)) (.cons _ _ _ (.frz rfl hL.symm) (.cons _ _ _ (.frz rfl hL.symm) (.cons _ _ _ (.int_eq (by rw[hL];rfl)) (.cons _ _ _ .same .nil))))),.nil,rfl⟩
 ·rintro⟨i,hi,he⟩
  have hLe:(g.free::cs).all (zaf g)=L.all (zaf g):=by rw[hL]
  show ABr (decide ((i:Int)<(L.length:Int))) _ _
  refine⟨fun h=>?_,fun h=>?_⟩
  ·have hlt:i<L.length:=by simpa using h
   have he:L.all (zaf g)=(zaf g (L.getD i default)&&(L.drop (i+1)).all (zaf g)):=by
    rw[he,List.drop_eq_getElem_cons hlt,List.all_cons,List.getD_eq_getElem?_getD,List.getElem?_eq_getElem hlt]
    rfl
   show AOb ((0:Int)<=(i:Int)/\(i:Int)<(L.length:Int)) _
   refine⟨by omega,?_⟩
   show ACall ..
   refine za (zqR g (L.getD i default) hs) rfl ?_
   show ABr (!zaf g (L.getD i default)) _ _
   refine⟨fun h=>?_,fun h=>?_⟩
   ·have hf:zaf g (L.getD i default)=false:=by simpa using h
    show ARet ..
    refine zt (x:=false) ?_ ⟨rfl,rfl⟩
    rw[hLe,he,hf]
    rfl
   ·have hf:zaf g (L.getD i default)=true:=by simpa using h
    show ARound ..
    exact⟨⟨i+1,hlt,by rw[he,hf,Bool.true_and]⟩,by show L.length-(i+1)<L.length-i;omega,[],.cons _ _ _ .same (.cons _ _ _ .same (.cons _ _ _ .same (.cons _ _ _ .same (.cons _ _ _ .same (.cons _ _ _ (.int_eq (zad (i:=i) (by unfold zE;omega))) .nil))))),.nil,rfl⟩
  ·have hge:i=L.length:=by simp at h;omega
   rw[hge,List.drop_length]at he
   have hall:(g.free::cs).all (zaf g)=true:=by rw[hLe,he];rfl
   show ACall ..
   refine .mk _ (zjL g.pages) fun H r ⟨eH,er⟩ _ _=>⟨.inl rfl,?_⟩
   subst eH er
   show ACall ..
   refine za (zei (cellStarts g.pages) 55 [.rp g.enc] (zaC g) (fun x hx=>ztg g x hs (zfq hx))) rfl ?_
   show AIf ((cellStarts g.pages).all (zaC g)=true/\True) _ _
   refine⟨fun h1=>?_,fun h1=>?_⟩
   ·show ACall ..
    refine za (zrF L (by rw[hL];exact hm)) rfl ?_
    show ARet ..
    refine zt (x:=decide (zn L).Nodup) ?_ ⟨rfl,rfl⟩
    rw[hall,h1.1,hL]
    rfl
   ·have h1:(cellStarts g.pages).all (zaC g)=false:=Bool.eq_false_iff.2 fun h'=>h1 ⟨h',trivial⟩
    show AOb ((cellStarts g.pages).all (zaC g)=false) _
    refine⟨h1,?_⟩
    show ARet ..
    refine zt (x:=false) ?_ ⟨rfl,rfl⟩
    rw[hall,h1]
    rfl
def zi6 (l:List Int):List (Int×CV):=l.foldl (fun m k=>zfc m k (.d (DV.bo true))) []
def zkO (l:List Int):List (Int×Bool):=(zi6 l).map fun p=>(p.1,true)
def zuN (m:List (Int×CV)):Prop:=∀p∈m,p.2 = .d (DV.bo true)
theorem zvu {m:List (Int×CV)} {n:Int} (h:zuN m):zuN (zfc m n (.d (DV.bo true))):=by
 induction m with
 |nil=>intro p hp;simp[zfc]at hp;rw[hp]
 |cons q r ih=>
  obtain⟨k,y⟩:=q
  simp only[zfc]
  by_cases hk:(n==k)=true
  ·rw[hk]
   intro p hp
   rcases List.mem_cons.1 hp with rfl|hp
   ·rfl
   ·exact h p (List.mem_cons_of_mem _ hp)
  ·rw[Bool.eq_false_iff.2 hk]
   intro p hp
   rcases List.mem_cons.1 hp with rfl|hp
   ·exact h _ (List.mem_cons_self ..)
   ·exact ih (fun p hp=>h p (List.mem_cons_of_mem _ hp)) p hp
theorem znx (l:List Int) (n:Int):zi6 (l++[n])=zfc (zi6 l) n (.d (DV.bo true)):=by unfold zi6;rw[List.foldl_append];rfl
theorem znt (l:List Int):zuN (zi6 l):=by
 unfold zi6
 suffices ∀m,zuN m->zuN (l.foldl (fun m k=>zfc m k (.d (DV.bo true))) m) from this [] (fun p hp=>by cases hp)
 induction l with
 |nil=>intro m h;exact h
 |cons x r ih=>intro m h;exact ih _ (zvu h)
theorem zwv {m:List (Int×CV)} (h:zuN m):toB m=some (m.map fun p=>(p.1,true)):=by
 induction m with
 |nil=>rfl
 |cons q r ih=>
  obtain⟨k,y⟩:=q
  have hy:y = .d (DV.bo true):=h (k,y) (List.mem_cons_self ..)
  subst hy
  simp only[toB,ih (fun p hp=>h p (List.mem_cons_of_mem _ hp)),List.map_cons]
  rfl
theorem zvU (l:List Int):toB (zi6 l)=some (zkO l):=zwv (znt l)
theorem zxg (l:List Int):(zi6 l).all (fun p=>isD p.2)=true:=List.all_eq_true.2 fun p hp=>by rw[znt l p hp];rfl
theorem zxi (l:List Int) (n:Int) (b:Bool):(zfc (zi6 l) n (.d (DV.bo true))).all (fun p=>isD p.2)=true:=by rw[←znx];exact zxg _
theorem LeB.map_eq {ρ:List (Nat×Nat)} {h h' : zg} {l m:List (Int×CV)} (e:l=m) (h1:l.all (fun p=>isD p.2)=true):LeB ρ h h' (.map l) (.map m):=by subst e;exact .map l h1
theorem zuL {m:List (Int×CV)} (n a:Int) (x:CV):zc9 ((zfc m n x).map fun p=>(p.1,true)) a=(a==n || zc9 (m.map fun p=>(p.1,true)) a):=by
 induction m with
 |nil=>simp[zfc,zc9]
 |cons q r ih=>
  obtain⟨k,y⟩:=q
  simp only[zfc]
  by_cases hk:n=k
  ·subst hk
   by_cases ha:a=n<;>simp[zc9,ha]
  ·have hk' : (n==k)=false:=by simp[hk]
   rw[hk']
   simp only[cond_false,List.map_cons,zc9,ih]
   by_cases ha:a=k
   ·subst ha
    simp
   ·have ha' : (a==k)=false:=by simp[ha]
    rw[ha']
    rfl
theorem zrT (l:List Int) (a:Int):zc9 (zkO l) a=l.contains a:=by
 unfold zkO zi6
 suffices ∀m,zc9 ((l.foldl (fun m k=>zfc m k (.d (DV.bo true))) m).map fun p=>(p.1,true)) a=(zc9 (m.map fun p=>(p.1,true)) a || l.contains a) from by
  rw[this];simp[zc9]
 induction l with
 |nil=>intro m;simp
 |cons x r ih=>
  intro m
  rw[List.foldl_cons,ih,zuL]
  rw[List.contains_cons]
  cases (a==x)<;>cases zc9 (m.map fun p=>(p.1,true)) a<;>rfl
theorem ACall.mk' {f:Nat} {args args' : List TV} {h:zg} {base:Nat} {k:TV->zg->Prop} {r:TV} (he:args.map (zdF h)=args') (hT:Spec X f [] args' (Ret [] r)) (hl:zcH 8 r=true) (hk:k (shT base 8 r) []):ACall X f args h base k:=
 za (by rw[he];exact hT) (by rw[hl,Bool.or_true]) hk
theorem zqk (g:Hp) (F:List Int) (a:Int) (hs:zC g=true) (ha:adr g a) :
  Spec X 112 [] (.int a::zdi [.rp g.enc,.rp [.mp (zkO F)]]) (Ret [] (.bo (zf g a != 0 || F.contains a))):=by
 obtain⟨_,_,hsl,_⟩:=zl hs
 refine zGO X_ok Tryz.f112 fun hb hH=>⟨rfl,?_⟩
 show ACall ..
 refine za (zfM g a hsl ha) rfl ?_
 show ARet ..
 refine zt (x:=bif zf g a != 0 then true else zc9 (zkO F) a) ?_ ⟨rfl,rfl⟩
 rw[zrT]
 cases zf g a != 0<;>rfl
theorem zsC (g:Hp) (cs:List Lists) (hm:(zn (zeL g cs)).length<=zk) (hc:cs.length<zk):Spec X 73 [] [g.tv,.c (.d (.sl .lists cs))] (Ret [] (.bo (zq g cs))):=by
 refine zGO X_ok Tryz.f73 fun hb hH=>⟨rfl,?_⟩
 unfold zq
 show ACall ..
 refine za (zeg g cs hm hc) rfl ?_
 show ABr (!zx g cs) _ _
 refine⟨fun h=>?_,fun h=>?_⟩
 ·have hs:zx g cs=false:=by simpa using h
  rw[hs]
  show ARet ..
  exact zi rfl ⟨rfl,rfl⟩
 have hmy:zx g cs=true:=by simpa using h
 rw[hmy]
 have hs:zC g=true:=by unfold zx at hmy;rw[Bool.and_eq_true]at hmy;exact hmy.1
 show AOb (1+cs.length<=zk) _
 refine⟨by omega,?_⟩
 show ACall ..
 refine .mk _ (zq7 (g.free::cs) hm) fun H r hq _ _=>?_
 obtain⟨rfl,rfl⟩:=hq
 refine⟨.inr ⟨rfl,rfl⟩,?_⟩
 obtain⟨F,hF⟩:∃F:List Int,F=zn (g.free::cs):=⟨_,rfl⟩
 have hlen:F.length<=zk:=by rw[hF];exact hm
 unfold zk at hlen
 show ∃n,_
 refine⟨0,ALoop.inv (ι:={i:Nat // i<=F.length}) (fun i=>⟨[(2,.c (.d (.rp g.enc))),(5,.c (.ptr 1 0 0)),(18,.c (.d (.sl .int F))),(19,.int F.length),(20,.int i.1)],[(1,.vars [.own 2]),(2,.map (zi6 (F.take i.1)))],96⟩) (fun i=>F.length-i.1) ⟨0,Nat.zero_le _⟩ ?_ ?_⟩
 ·exact⟨[(256,1),(224,2)],.cons _ _ _ (.c _ _ (.frz _ _ rfl)) (.cons _ _ _ (.c _ _ (.ptr _ _ _ _ rfl)) (.cons _ _ _ (.frz rfl hF.symm) (.cons _ _ _ (.int_eq (by rw[hF];rfl)) (.cons _ _ _ .same .nil)))),.old 1 256 _ _ _ rfl rfl (.vars _ _ (.cons _ _ _ _ (.own _ _ rfl) .nil)) (.old 2 224 _ _ _ rfl rfl (.map_eq (by rw[List.take_zero];rfl) rfl) .nil),rfl⟩
 ·rintro⟨i,hi⟩
  show ABr (decide ((i:Int)<(F.length:Int))) _ _
  refine⟨fun h=>?_,fun h=>?_⟩
  ·have hlt:i<F.length:=by simpa using h
   show AOb ((0:Int)<=(i:Int)/\(i:Int)<(F.length:Int)) _
   refine⟨by omega,?_⟩
   show ARound ..
   exact⟨⟨i+1,hlt⟩,by show F.length-(i+1)<F.length-i;omega,[(1,1),(2,2)],.cons _ _ _ .same (.cons _ _ _ (.c _ _ (.ptr _ _ _ _ rfl)) (.cons _ _ _ .same (.cons _ _ _ .same (.cons _ _ _ (.int_eq (zad (i:=i) (by unfold zE;omega))) .nil)))),.old 1 1 _ _ _ rfl rfl (.vars _ _ (.cons _ _ _ _ (.own _ _ rfl) .nil)) (.old 2 2 _ _ _ rfl rfl (.map_eq (l:=zfc (zi6 (F.take i)) (F.getD (i:Int).toNat default) (.d (DV.bo true))) (by rw[zfi hlt,znx];rfl) (zxi _ _ true)) .nil),rfl⟩
  ·have hge:i=F.length:=by simp at h;omega
   subst hge
   show ACall ..
   refine .mk _ (zjL g.pages) fun H r hq _ _=>?_
   obtain⟨rfl,rfl⟩:=hq
   refine⟨.inl rfl,?_⟩
   have hB:=zvU F
   rw[List.take_length]
   show ACall ..
   refine .mk' (args':=[.c (.d (.sl .int (cellStarts g.pages))),.c (.d (.fn 112 [] [.rp g.enc,.rp [.mp (zkO F)]]))]) ?_ (zei (cellStarts g.pages) 112 [.rp g.enc,.rp [.mp (zkO F)]] (fun a=>zf g a != 0 || F.contains a) (fun x hx=>zqk g F x hs (zfq hx))) rfl ?_
   ·show [zdF _ _,zdF [(192,.data .int (cellStarts g.pages)),(1,.vars [.own 2]),(2,.map (zi6 F))] (.c (.cl 112 [] [.d (.rp g.enc),.ptr 1 0 0]))]=[_,_]
    have e2:zdF [(192,.data .int (cellStarts g.pages)),(1,.vars [.own 2]),(2,.map (zi6 F))] (.c (.cl 112 [] [.d (.rp g.enc),.ptr 1 0 0])) = .c (.d (.fn 112 [] [.rp g.enc,.rp [.mp (zkO F)]])):=by
     simp[zdF,zbF,zb9,zh,hB,show Nat.beq 192 1=false from rfl,show Nat.beq 192 2=false from rfl,show Nat.beq 1 2=false from rfl,show Nat.beq 1 1=true from rfl,show Nat.beq 2 2=true from rfl]
    rw[e2]
    rfl
   ·show ARet ..
    refine zt (x:=(cellStarts g.pages).all fun a=>zf g a != 0 || F.contains a) ?_ ⟨rfl,rfl⟩
    rw[hF]
    rfl
abbrev zzL:TV:=.lit (.slice none 0 0)
def Hp.zero:Hp:=⟨[],[],⟨[],[],[]⟩,[]⟩
def Hp.light (h:Hp):Prop:=(zn [h.free]).length<=zk
def headE (h:Hp) (a:Int):Int:=bif zx h [] then (bif decide (ze h.pages a=0) then 3 else (bif (unp (zf h a)).used then 0 else 3)) else 1
def headH (h:Hp) (a:Int):Hd:=bif decide (headE h a=0) then unp (zf h a) else Hd.zero
def zu (h:Hp):List Int:=bif zx h [] then (cellStarts h.pages).filter (fun a=>zf h a != 0) else []
def newH (n:Int):Hp:=bif pgN n then ⟨zer (n*16).toNat,List.replicate n.toNat ⟨0,0⟩,⟨[],[],[]⟩,List.replicate (2*n).toNat false⟩ else Hp.zero
theorem zbQ (g:Hp) (hl:g.light):Spec X 26 [] [g.tv,zzL] (Ret [] (.bo (zx g []))):=
 (zeg g [] hl (by unfold zk;simp)).args (.cons _ _ _ _ (.refl _) (.cons _ _ _ _ (.sl .lists [] _ rfl) .nil))
theorem zA {h:Hp} {cs:List Lists} (hm:zx h cs=true):zC h=true:=by
 unfold zx at hm;rw[Bool.and_eq_true]at hm;exact hm.1
theorem zb3 {g:Hp} {a:Int} {e:Int} (h:headE g a=e) (he:e≠0):headH g a=Hd.zero:=by unfold headH;rw[h,decide_eq_false he];rfl
theorem zaA {g:Hp} {a:Int} (h:headE g a=0):headH g a=unp (zf g a):=by unfold headH;rw[h];rfl
theorem zaJ (g:Hp) (a:Int) (hl:g.light):Spec X 19 [] [g.tv,.int a] (Ret [] (.tup [(headH g a).tv,.int (headE g a)])):=by
 refine zGO X_ok Tryz.f19 fun hb hH=>⟨rfl,?_⟩
 show ACall ..
 refine za (zbQ g hl) rfl ?_
 show ABr (!zx g []) _ _
 refine⟨fun h=>?_,fun h=>?_⟩
 ·have hm:zx g []=false:=by simpa using h
  have hE:headE g a=1:=by unfold headE;rw[hm];rfl
  rw[zb3 hE (by decide),hE]
  show ARet ..
  exact zi rfl ⟨rfl,rfl⟩
 have hm:zx g []=true:=by simpa using h
 have hs:=zA hm
 obtain⟨_,_,hsl,_⟩:=zl hs
 show ACall ..
 refine za (zfl g.pages a) rfl ?_
 show ABr (decide (ze g.pages a=0)) _ _
 refine⟨fun h=>?_,fun h=>?_⟩
 ·have hE:headE g a=3:=by unfold headE;rw[hm,h];rfl
  rw[zb3 hE (by decide),hE]
  show ARet ..
  exact zi rfl ⟨rfl,rfl⟩
 ·have had:=zaL (h:=g) (a:=a) (of_decide_eq_false h)
  have hr:=h
  show ACall ..
  refine za (zfM g a hsl had) rfl ?_
  show ACall ..
  refine za (zi3 (zf g a)) rfl ?_
  show ABr (!(unp (zf g a)).used) _ _
  refine⟨fun h=>?_,fun h=>?_⟩
  ·have hu:(unp (zf g a)).used=false:=by simpa using h
   have hE:headE g a=3:=by unfold headE;rw[hm,hr,hu];rfl
   rw[zb3 hE (by decide),hE]
   show ARet ..
   exact zi rfl ⟨rfl,rfl⟩
  ·have hu:(unp (zf g a)).used=true:=by simpa using h
   have hE:headE g a=0:=by unfold headE;rw[hm,hr,hu];rfl
   rw[zaA hE,hE]
   show ARet ..
   exact zi rfl ⟨rfl,rfl⟩
theorem zsi (g:Hp) (a:Int) (hs:zC g=true) (ha:adr g a):Spec X 29 [] (.int a::zdi [.rp g.enc]) (Ret [] (.bo (zf g a==0))):=by
 obtain⟨_,_,hsl,_⟩:=zl hs
 refine zGO X_ok Tryz.f29 fun hb hH=>⟨rfl,?_⟩
 show ACall ..
 refine za (zfM g a hsl ha) rfl ?_
 show ARet ..
 exact zi rfl ⟨rfl,rfl⟩
theorem zh3 (g:Hp) (hl:g.light):Spec X 15 [] [g.tv] (Ret [] (.c (.d (.sl .int (zu g))))):=by
 refine zGO X_ok Tryz.f15 fun hb hH=>⟨rfl,?_⟩
 unfold zu
 show ACall ..
 refine za (zbQ g hl) rfl ?_
 show ABr (!zx g []) _ _
 refine⟨fun h=>?_,fun h=>?_⟩
 ·have hm:zx g []=false:=by simpa using h
  rw[hm]
  show ARet ..
  exact zgL (.nilsl rfl) ⟨rfl,rfl⟩
 have hm:zx g []=true:=by simpa using h
 have hs:=zA hm
 rw[hm]
 show ACall ..
 refine .mk _ (zjL g.pages) fun H r hq _ _=>?_
 obtain⟨rfl,rfl⟩:=hq
 refine⟨.inl rfl,?_⟩
 show ACall ..
 refine .hand [(_,16)] [(16,.data .int (cellStarts g.pages))] [.c (.own 16),.c (.d (.fn 29 [] [.rp g.enc]))] _ (.cons _ _ _ _ (.c _ _ (.own1 _ _)) (.cons _ _ _ _ (.c _ _ (.frz _ _ rfl)) .nil)) (.old 16 _ _ _ _ rfl rfl (.data_eq rfl) .nil) rfl (zkZ (cellStarts g.pages) _ [.rp g.enc] (fun a=>zf g a==0) (fun x hx=>zsi g x hs (zfq hx))) ?_
 rintro H r ⟨z,rfl,rfl⟩ _ _
 refine⟨rfl,.inr ⟨rfl,rfl⟩,?_⟩
 show ARet ..
 have ef:(cellStarts g.pages).filter (fun a=>zf g a != 0)=(cellStarts g.pages).filter (fun x=>!(fun a=>zf g a==0) x):=rfl
 rw[ef]
 generalize hF:(cellStarts g.pages).filter (fun x=>!(fun a=>zf g a==0) x)=F
 have hle:Nat.ble (0+F.length) (F++z).length=true:=Nat.ble_eq_true_of_le (by rw[List.length_append];omega)
 refine zgL (.frz (k:=.int) (l:=((F++z).drop 0).take F.length) ?_ ?_) ⟨rfl,rfl⟩
 ·show(bif Nat.ble (0+F.length) (F++z).length then some (DV.sl .int (((F++z).drop 0).take F.length)) else none)=_
  rw[hle]
  rfl
 ·show((F++z).drop 0).take F.length=F
  rw[List.drop_zero,List.take_left]
theorem znN (n:Int):Spec X 14 [] [.int n] (Ret [] (.tup [(newH n).tv,.int (newE n)])):=by
 refine zGO X_ok Tryz.f14 fun hb hH=>⟨rfl,?_⟩
 show ACall ..
 refine za (zuA n) rfl ?_
 cases hp:pgN n with
 |false=>
  have e1:newE n=1:=by unfold newE;rw[hp];rfl
  have e2:newH n=Hp.zero:=by unfold newH;rw[hp];rfl
  rw[e2,e1]
  refine zYE (by decide) ?_
  show ARet ..
  exact⟨[],[],_,.cons _ _ _ _ (.agg _ _ (.cons _ _ _ _ (.nilsl .int) (.cons _ _ _ _ (.nilsl .page) (.cons _ _ _ _ (.nilsl .int) (.cons _ _ _ _ (.nilsl .int) (.cons _ _ _ _ (.nilsl .int) (.cons _ _ _ _ (.nilsl .bool) .nil))))))) (.cons _ _ _ _ .same .nil),.nil,rfl,rfl,rfl⟩
 |true=>
  have e1:newE n=0:=by unfold newE;rw[hp];rfl
  have e2:newH n=⟨zer (n*16).toNat,List.replicate n.toNat ⟨0,0⟩,⟨[],[],[]⟩,List.replicate (2*n).toNat false⟩:=by unfold newH;rw[hp];rfl
  have e3:zxQ n=zer (n*16).toNat:=by unfold zxQ;rw[hp];rfl
  have hn:=of_decide_eq_true hp
  rw[e2,e1,e3]
  refine zNO (by decide) ?_
  show AOb ((0:Int)<=n/\n<=n/\n<=(zk:Int)) _
  refine⟨by unfold zk;omega,?_⟩
  have hl:(zer (n*16).toNat).length=(n*16).toNat:=by unfold zer;simp
  have ht:tdv ((zer (n*16).toNat).length:Int) 8=2*n:=by
   have:=zzt (zer (n*16).toNat).length (by rw[hl];unfold zE;omega)
   rw[this,hl]
   omega
  show AOb ..
  refine⟨by decide,?_⟩
  show AOb ((0:Int)<=tdv ((zer (n*16).toNat).length:Int) 8/\tdv ((zer (n*16).toNat).length:Int) 8<=tdv ((zer (n*16).toNat).length:Int) 8/\tdv ((zer (n*16).toNat).length:Int) 8<=(zk:Int)) _
  refine⟨by rw[ht];unfold zk;omega,?_⟩
  show ARet ..
  exact⟨[],[],_,.cons _ _ _ _ (.agg _ _ (.cons _ _ _ _ (.d _) (.cons _ _ _ _ (.frz_eq (k:=.page) rfl rfl) (.cons _ _ _ _ (.nilsl .int) (.cons _ _ _ _ (.nilsl .int) (.cons _ _ _ _ (.nilsl .int) (.cons _ _ _ _ (.frz_eq (k:=.bool) (l:=List.replicate (tdv ((zer (n*16).toNat).length:Int) 8).toNat false) rfl (by rw[ht];rfl)) .nil))))))) (.cons _ _ _ _ .same .nil),.nil,rfl,rfl,rfl⟩
theorem zuo (g:Hp) (hl:g.light) (hs:zC g=true):Spec X 227 [] [g.tv] (Ret [] g.tv):=by
 refine zGO X_ok Tryz.f227 fun hb hH=>⟨rfl,?_⟩
 obtain⟨_,_,h1,h2,h3,h4⟩:=zl hs
 have hf:g.free.l0.length+g.free.l1.length+g.free.l2.length<=zk:=by
  have:=hl
  unfold Hp.light at this
  simp[zn,Lists.flat]at this
  omega
 have hm:1024<=zk:=by decide
 show ADCall ..
 refine .mk _ _ (zd g.w (by omega)) rfl ?_
 show ADCall ..
 refine .mk _ _ (zac g.pages (by omega)) rfl ?_
 show ADCall ..
 refine .mk _ _ (zah g.cards (by omega)) rfl ?_
 show ∃n,_
 refine⟨4,?_⟩
 show ALoop ..
 refine .next ?_
 refine zYE (by decide) ?_
 show AOb ..
 refine⟨by decide,?_⟩
 show ACall ..
 refine za (zd g.free.l0 (by omega)) rfl ?_
 show AOb ..
 refine⟨by decide,?_⟩
 show ALoop ..
 refine .next ?_
 refine zYE (by decide) ?_
 show AOb ..
 refine⟨by decide,?_⟩
 show ACall ..
 refine za (zd g.free.l1 (by omega)) rfl ?_
 show AOb ..
 refine⟨by decide,?_⟩
 show ALoop ..
 refine .next ?_
 refine zYE (by decide) ?_
 show AOb ..
 refine⟨by decide,?_⟩
 show ACall ..
 refine za (zd g.free.l2 (by omega)) rfl ?_
 show AOb ..
 refine⟨by decide,?_⟩
 show ALoop ..
 refine .next ?_
 refine zNO (by decide) ?_
 show ARet ..
 exact zi rfl ⟨rfl,rfl⟩
def zgW (g:Hp) (a:Int) (x:Hd):Int:=bif decide (headE g a=0) then (bif decide (x.May/\x.used=true/\x.n=(headH g a).n) then 0 else 1) else headE g a
def zcc (g:Hp) (a:Int) (v:Int):Hp:=⟨g.w.set (a-16).toNat v,g.pages,g.free,g.cards⟩
def zgx (g:Hp) (a:Int) (x:Hd):Hp:=bif decide (zgW g a x=0) then zcc g a x.word else Hp.zero
theorem ztv {g:Hp} {a:Int} {x:Hd} {e:Int} (h:zgW g a x=e) (he:e≠0):zgx g a x=Hp.zero:=by unfold zgx;rw[h,decide_eq_false he];rfl
theorem ziV {g:Hp} {a:Int} {x:Hd} (h:zgW g a x=0):zgx g a x=zcc g a x.word:=by unfold zgx;rw[h];rfl
theorem zU {g:Hp} {a:Int} (h:headE g a=0):zx g []=true/\ze g.pages a≠0/\(unp (zf g a)).used=true:=by
 unfold headE at h
 cases hm:zx g [] with
 |false=>rw[hm]at h;exact absurd h (by simp)
 |true=>
  rw[hm]at h
  by_cases hr:ze g.pages a=0
  ·rw[decide_eq_true hr]at h;exact absurd h (by simp)
  ·rw[decide_eq_false hr]at h
   cases hu:(unp (zf g a)).used with
   |false=>rw[hu]at h;exact absurd h (by decide)
   |true=>exact⟨rfl,hr,rfl⟩
theorem zjZ (g:Hp) (a:Int) (x:Hd) (hl:g.light):Spec X 187 [] [g.tv,.int a,x.tv] (Ret [] (.tup [(zgx g a x).tv,.int (zgW g a x)])):=by
 refine zGO X_ok Tryz.f187 fun hb hH=>⟨rfl,?_⟩
 show ACall ..
 refine za (zaJ g a hl) rfl ?_
 show ABr (headE g a != 0) _ _
 refine⟨fun h=>?_,fun h=>?_⟩
 ·have h0:headE g a≠0:=by simpa using h
  have hE:zgW g a x=headE g a:=by unfold zgW;rw[decide_eq_false h0];rfl
  rw[ztv hE h0,hE]
  show ARet ..
  exact⟨[],[],_,.cons _ _ _ _ (.agg _ _ (.cons _ _ _ _ (.nilsl .int) (.cons _ _ _ _ (.nilsl .page) (.cons _ _ _ _ (.nilsl .int) (.cons _ _ _ _ (.nilsl .int) (.cons _ _ _ _ (.nilsl .int) (.cons _ _ _ _ (.nilsl .bool) .nil))))))) (.cons _ _ _ _ .same .nil),.nil,rfl,rfl,rfl⟩
 ·have h0:headE g a=0:=by simpa using h
  obtain⟨hm,hr,hu⟩:=zU h0
  have hs:=zA hm
  obtain⟨hw,_,hsl,_⟩:=zl hs
  have had:=zaL (h:=g) (a:=a) hr
  show ACall ..
  refine za (zmC x) rfl ?_
  have hiff:(bif (bif zc5 x != 0 then true else !x.used) then true else x.n != (headH g a).n) = !decide (x.May/\x.used=true/\x.n=(headH g a).n):=by
   unfold zc5
   by_cases c1:x.May
   ·rw[if_pos c1]
    cases c2:x.used with
    |false=>simp[c1,c2]
    |true=>
     by_cases c3:x.n=(headH g a).n<;>simp[c1,c2,c3]
   ·rw[if_neg c1]
    simp[c1]
  show ABr (bif (bif zc5 x != 0 then true else !x.used) then true else x.n != (headH g a).n) _ _
  rw[hiff]
  refine⟨fun h=>?_,fun h=>?_⟩
  ·have hc:decide (x.May/\x.used=true/\x.n=(headH g a).n)=false:=by
    cases hd:decide (x.May/\x.used=true/\x.n=(headH g a).n) with
    |false=>rfl
    |true=>rw[hd]at h;exact absurd h (by decide)
   have hE:zgW g a x=1:=by unfold zgW;rw[h0,hc];rfl
   rw[ztv hE (by decide),hE]
   show ARet ..
   exact⟨[],[],_,.cons _ _ _ _ (.agg _ _ (.cons _ _ _ _ (.nilsl .int) (.cons _ _ _ _ (.nilsl .page) (.cons _ _ _ _ (.nilsl .int) (.cons _ _ _ _ (.nilsl .int) (.cons _ _ _ _ (.nilsl .int) (.cons _ _ _ _ (.nilsl .bool) .nil))))))) (.cons _ _ _ _ .same .nil),.nil,rfl,rfl,rfl⟩
  ·have hc:decide (x.May/\x.used=true/\x.n=(headH g a).n)=true:=by
    cases hd:decide (x.May/\x.used=true/\x.n=(headH g a).n) with
    |true=>rfl
    |false=>rw[hd]at h;exact absurd h (by decide)
   have hE:zgW g a x=0:=by unfold zgW;rw[h0,hc];rfl
   have hM:x.May:=(of_decide_eq_true hc).1
   rw[ziV hE,hE]
   show ACall ..
   refine za (zuo g hl hs) rfl ?_
   have hp:zhO x=x.word:=if_pos hM
   show ACall ..
   refine za (zfm g.w a (zhO x) hw ⟨had.1,by have:=had.2;omega⟩) rfl ?_
   rw[hp]
   show ARet ..
   exact zi rfl ⟨rfl,rfl⟩
end Go.Abs
namespace Go.Abs
theorem zai {g:Hp} {cs:List Lists} (h:zx g cs=true):zC g=true/\(∀l∈g.free::cs,zaf g l=true)/\(∀a∈cellStarts g.pages,zaC g a=true)/\(zn (g.free::cs)).Nodup:=by
 unfold zx at h
 simp only[Bool.and_eq_true,List.all_eq_true,decide_eq_true_eq]at h
 exact⟨h.1,h.2.1,h.2.2.1,h.2.2.2⟩
theorem zdr {g:Hp} {cs:List Lists} (h1:zC g=true) (h2:∀l∈g.free::cs,zaf g l=true) (h3:∀a∈cellStarts g.pages,zaC g a=true) (h4:(zn (g.free::cs)).Nodup):zx g cs=true:=by
 unfold zx
 simp only[Bool.and_eq_true,List.all_eq_true,decide_eq_true_eq]
 exact⟨h1,h2,h3,h4⟩
theorem zpQ {w:Int} (h:zjM w=true):unp w=zjv w/\(zjv w).May:=by
 have hm:(zjv w).May:=of_decide_eq_true h
 exact⟨if_pos hm,hm⟩
theorem zi4 {w:Int} (h:zjM w=true):(unp w).used=(w != 0):=by
 obtain⟨e,hm⟩:=zpQ h
 rw[e]
 cases hu:(zjv w).used with
 |true=>
  have h1:w % 2=1:=of_decide_eq_true hu
  have:w≠0:=by omega
  simp[this]
 |false=>
  have hz:zjv w=Hd.zero:=by
   unfold Hd.May at hm
   rw[if_neg (by simp[hu])]at hm
   exact hm
  have:=zn0 w
  rw[hz]at this
  have hw:w=0:=by rw[←this];rfl
  subst hw
  rfl
theorem zco {x:Hd} (hm:x.May):unp x.word=x/\zjM x.word=true:=by
 have e:=zu2 hm
 constructor
 ·unfold unp;rw[if_pos (by rw[e];exact hm),e]
 ·unfold zjM;rw[e];exact decide_eq_true hm
theorem ziO {x:Hd} (hm:x.May) (hu:x.used=true):x.word≠0:=by
 have h:=zi4 (zco hm).2
 rw[(zco hm).1,hu]at h
 intro e
 rw[e]at h
 exact absurd h (by decide)
theorem zvw {n c:Int} (h1:zaM n=0) (h2:clsOf n=c) (hc:0<=c/\c<=2):1<=n/\n<zaR c:=by
 have hn:¬n<1/\¬n>63:=by
  unfold zaM at h1
  by_cases g1:n<1
  ·rw[if_pos g1]at h1;exact absurd h1 (by decide)
  ·rw[if_neg g1]at h1
   by_cases g2:n>63
   ·rw[if_pos g2]at h1;exact absurd h1 (by decide)
   ·exact⟨g1,g2⟩
 unfold clsOf at h2
 rw[if_neg (by omega)]at h2
 by_cases g1:n<=1
 ·rw[if_pos g1]at h2;subst h2;exact⟨by omega,by rw[show zaR 0=2 from rfl];omega⟩
 ·rw[if_neg g1]at h2
  by_cases g2:n<=3
  ·rw[if_pos g2]at h2;subst h2;exact⟨by omega,by rw[show zaR 1=4 from rfl];omega⟩
  ·rw[if_neg g2]at h2
   by_cases g3:n<=7
   ·rw[if_pos g3]at h2;subst h2;exact⟨by omega,by rw[show zaR 2=8 from rfl];omega⟩
   ·rw[if_neg g3]at h2;omega
theorem zwJ {n c:Int} (h1:ziZ n=0) (h2:zaV n=c):1<=n/\n<16*c/\zaM n=0:=by
 unfold ziZ at h1
 unfold zaV at h2
 by_cases g0:zaM n≠0
 ·rw[if_pos g0]at h1;exact absurd h1 g0
 ·rw[if_neg g0]at h1 h2
  have hE:zaM n=0:=by omega
  by_cases g1:clsOf n<3
  ·rw[if_pos g1]at h1;exact absurd h1 (by decide)
  ·rw[if_neg g1]at h2
   have hn:¬n<1:=by
    intro g
    unfold zaM at hE
    rw[if_pos g]at hE
    exact absurd hE (by decide)
   exact⟨by omega,by omega,hE⟩
theorem zuX {g:Hp} {a:Int} (hr:ze g.pages a≠0) (hc:zaC g a=true) (hu:(unp (zf g a)).used=true):1<=(unp (zf g a)).n/\(unp (zf g a)).n<ze g.pages a:=by
 obtain⟨_,i,hi⟩:=zap (zz hr)
 unfold zaC at hc
 rw[hu,cond_true,Bool.and_eq_true]at hc
 have hpg:zO g a=g.pages.getD i default:=by
  unfold zO
  have:=hi.div
  simp only at this
  rw[this]
  simp
 have hf:=hc.2
 unfold zjj at hf
 rw[hpg]at hf
 rcases hi.kind with⟨k1,k2,k3,_,k5⟩|⟨k1,k2,k3,_,k5⟩
 ·rw[k1]at hf
  have hf:=of_decide_eq_true (show decide _=true from hf)
  simp only at k5
  rw[k5]
  exact zvw hf.1 hf.2 ⟨k2,k3⟩
 ·rw[k1]at hf
  have hf:=of_decide_eq_true (show decide _=true from hf)
  simp only at k5
  have:=zwJ hf.1 hf.2
  rw[k5]
  omega
theorem zbp {g:Hp} (hm:zx g []=true):zu g=(cellStarts g.pages).filter (fun a=>zf g a != 0):=by unfold zu;rw[hm];rfl
theorem zaa {g:Hp} {a:Int}:a∈zu g↔headE g a=0:=by
 constructor
 ·intro h
  cases hm:zx g [] with
  |false=>unfold zu at h;rw[hm]at h;cases h
  |true=>
   rw[zbp hm,List.mem_filter]at h
   have hr:=zw.1 h.1
   have hc:=(zai hm).2.2.1 a h.1
   unfold zaC at hc
   rw[Bool.and_eq_true]at hc
   have hu:=zi4 hc.1
   rw[h.2]at hu
   unfold headE
   rw[hm,decide_eq_false hr,hu]
   rfl
 ·intro h
  obtain⟨hm,hr,hu⟩:=zU h
  have hs:=zw.2 hr
  have hc:=(zai hm).2.2.1 a hs
  unfold zaC at hc
  rw[Bool.and_eq_true]at hc
  rw[zbp hm,List.mem_filter]
  exact⟨hs,by rw[←zi4 hc.1];exact hu⟩
theorem zoA (g:Hp):(zu g).Pairwise (· < ·):=by
 unfold zu
 cases zx g [] with
 |false=>exact List.Pairwise.nil
 |true=>exact(zdv g.pages).filter _
theorem zaj {g:Hp} {a:Int} (h:headE g a=0):(headH g a).used=true/\1<=(headH g a).n/\(headH g a).n<ze g.pages a/\adr g a:=by
 obtain⟨hm,hr,hu⟩:=zU h
 rw[zaA h]
 have:=zuX hr ((zai hm).2.2.1 a (zw.2 hr)) hu
 exact⟨hu,this.1,this.2,zaL hr⟩
theorem zxP {g:Hp} {a:Int} (hs:g.w.length=16*g.pages.length) (ha:adr g a):(a-16).toNat<g.w.length:=by
 have h1:=ha.1;have h2:=ha.2
 omega
theorem zlb {l:List Int} {i j:Nat} {v:Int} (hi:i<l.length):at0 (l.set i v) j=if i=j then v else at0 l j:=by
 unfold at0
 rw[List.getD_eq_getElem?_getD,List.getD_eq_getElem?_getD,List.getElem?_set]
 by_cases h:i=j
 ·rw[if_pos h,if_pos hi,if_pos h];rfl
 ·rw[if_neg h,if_neg h]
theorem zf7 {g:Hp} {a u v:Int} (hs:g.w.length=16*g.pages.length) (ha:adr g a) (hu:adr g u):zf (zcc g a v) u=if u=a then v else zf g u:=by
 unfold zf
 show at0 (g.w.set (a-16).toNat v) (u-16).toNat=_
 rw[zlb (zxP hs ha)]
 have h1:=ha.1;have h2:=hu.1
 by_cases h:u=a
 ·subst h;rw[if_pos rfl,if_pos rfl]
 ·rw[if_neg h,if_neg (by omega)]
theorem zrM (g:Hp) (a v:Int):zC (zcc g a v)=zC g:=by
 unfold zC zcc zbo
 simp only[List.length_set]
theorem zlm {g:Hp} {a v:Int} (hs:g.w.length=16*g.pages.length) (ha:adr g a) (h0:zf g a≠0) (hv:v≠0) (c u:Int):zau (zcc g a v) c u=zau g c u:=by
 unfold zau
 show decide (0<ze g.pages u/\zO g u=⟨1,c⟩/\zf (zcc g a v) u=0)=_
 by_cases hr:0<ze g.pages u
 ·have hu:=zaL (h:=g) (a:=u) (by omega)
  rw[zf7 hs ha hu]
  by_cases e:u=a
  ·subst e
   simp[hv,h0]
  ·rw[if_neg e]
 ·simp[hr]
theorem zsq {g:Hp} {a v:Int} (hs:g.w.length=16*g.pages.length) (ha:adr g a) (h0:zf g a≠0) (hv:v≠0) (l:Lists):zaf (zcc g a v) l=zaf g l:=by
 unfold zaf
 rw[show zau (zcc g a v) 0=zau g 0 from funext (zlm hs ha h0 hv 0),show zau (zcc g a v) 1=zau g 1 from funext (zlm hs ha h0 hv 1),show zau (zcc g a v) 2=zau g 2 from funext (zlm hs ha h0 hv 2)]
structure PutOk (g:Hp) (a:Int) (x:Hd):Prop where
 may:zx g []=true
 room:ze g.pages a≠0
 used:(unp (zf g a)).used=true
 xmay:x.May
 xused:x.used=true
 xn:x.n=(unp (zf g a)).n
theorem zx8 {g:Hp} {a:Int} {x:Hd} (h:zgW g a x=0):PutOk g a x/\headE g a=0:=by
 unfold zgW at h
 by_cases h0:headE g a=0
 ·rw[decide_eq_true h0]at h
  obtain⟨h1,h2,h3⟩:=zU h0
  cases hd:decide (x.May/\x.used=true/\x.n=(headH g a).n) with
  |false=>rw[hd]at h;exact absurd h (by simp)
  |true=>
   obtain⟨g1,g2,g3⟩:=of_decide_eq_true hd
   rw[zaA h0]at g3
   exact⟨⟨h1,h2,h3,g1,g2,g3⟩,h0⟩
 ·rw[decide_eq_false h0]at h
  exact absurd h h0
theorem PutOk.w0 {g:Hp} {a:Int} {x:Hd} (h:PutOk g a x):zf g a≠0:=by
 have hc:=(zai h.may).2.2.1 a (zw.2 h.room)
 unfold zaC at hc
 rw[Bool.and_eq_true]at hc
 have:=zi4 hc.1
 rw[h.used]at this
 simpa using this.symm
theorem zq9 {g:Hp} {a:Int} {x:Hd} (h:PutOk g a x) {u:Int} (hu:u∈cellStarts g.pages):zaC (zcc g a x.word) u=zaC g u:=by
 obtain⟨_,_,hs,_⟩:=zl (zai h.may).1
 unfold zaC
 rw[zf7 hs (zaL h.room) (zfq hu)]
 by_cases e:u=a
 ·subst e
  rw[if_pos rfl,(zco h.xmay).1,(zco h.xmay).2,h.xused,h.xn,h.used]
  have hc:=(zai h.may).2.2.1 u hu
  unfold zaC at hc
  rw[Bool.and_eq_true]at hc
  rw[hc.1]
  rfl
 ·rw[if_neg e]
  rfl
theorem zhD {g:Hp} {a:Int} {x:Hd} (h:PutOk g a x) (cs:List Lists):zx (zcc g a x.word) cs=zx g cs:=by
 obtain⟨_,_,hs,_⟩:=zl (zai h.may).1
 have h0:=h.w0
 have hx:=ziO h.xmay h.xused
 have hl:=zsq hs (zaL h.room) h0 hx
 unfold zx
 rw[zrM]
 show(zC g&&((g.free::cs).all (zaf (zcc g a x.word))&&((cellStarts g.pages).all (zaC (zcc g a x.word))&&_)))=_
 rw[show zaf (zcc g a x.word)=zaf g from funext hl]
 have hc:(cellStarts g.pages).all (zaC (zcc g a x.word))=(cellStarts g.pages).all (zaC g):=by
  rw[Bool.eq_iff_iff,List.all_eq_true,List.all_eq_true]
  exact⟨fun k u hu=>by rw[←zq9 h hu];exact k u hu,fun k u hu=>by rw[zq9 h hu];exact k u hu⟩
 rw[hc]
 rfl
theorem zoi {g:Hp} {a:Int} {x:Hd} (h:PutOk g a x) {u:Int} (hu:u∈cellStarts g.pages):(zf (zcc g a x.word) u != 0)=(zf g u != 0):=by
 obtain⟨_,_,hs,_⟩:=zl (zai h.may).1
 have h0:=h.w0
 have hx:=ziO h.xmay h.xused
 rw[zf7 hs (zaL h.room) (zfq hu)]
 by_cases e:u=a
 ·subst e
  rw[if_pos rfl,(bne_iff_ne (a:=x.word) (b:=0)).2 hx,(bne_iff_ne (a:=zf g u) (b:=0)).2 h0]
 ·rw[if_neg e]
theorem zkh {g:Hp} {a:Int} {x:Hd} (h:PutOk g a x) (cs:List Lists):zq (zcc g a x.word) cs=zq g cs:=by
 unfold zq
 rw[zhD h]
 congr 1
 show(cellStarts g.pages).all _=(cellStarts g.pages).all _
 rw[Bool.eq_iff_iff,List.all_eq_true,List.all_eq_true]
 constructor
 ·intro k u hu
  rw[←zoi h hu]
  exact k u hu
 ·intro k u hu
  have:=k u hu
  rw[←zoi h hu]at this
  exact this
theorem zlg {g:Hp} {a:Int} {x:Hd} (h:PutOk g a x):zu (zcc g a x.word)=zu g:=by
 unfold zu
 rw[zhD h,h.may]
 show(cellStarts g.pages).filter _=(cellStarts g.pages).filter _
 exact List.filter_congr fun u hu=>zoi h hu
theorem zvV {g:Hp} {a:Int} {x:Hd} (h:PutOk g a x) {u:Int} (hu:headE g u=0):headE (zcc g a x.word) u=0/\headH (zcc g a x.word) u=if u=a then x else headH g u:=by
 obtain⟨_,hr,hus⟩:=zU hu
 obtain⟨_,_,hs,_⟩:=zl (zai h.may).1
 have hw:=zf7 (v:=x.word) hs (zaL h.room) (zaL hr)
 have hE:headE (zcc g a x.word) u=0:=by
  unfold headE
  rw[zhD h,h.may,hw]
  show(bif true then (bif decide (ze g.pages u=0) then 3 else _) else 1)=0
  rw[decide_eq_false hr]
  by_cases e:u=a
  ·rw[if_pos e,(zco h.xmay).1,h.xused];rfl
  ·rw[if_neg e,hus];rfl
 refine⟨hE,?_⟩
 rw[zaA hE,zaA hu,hw]
 by_cases e:u=a
 ·rw[if_pos e,if_pos e,(zco h.xmay).1]
 ·rw[if_neg e,if_neg e]
theorem zcM {L:List Lists} {x:Int}:x∈zn L↔∃l∈L,x∈l.flat:=by unfold zn;exact List.mem_flatMap
theorem zdI {g:Hp} {l:Lists} {x:Int} (h:zaf g l=true) (hx:x∈l.flat):0<ze g.pages x/\zf g x=0:=by
 unfold zaf at h
 simp only[Bool.and_eq_true,List.all_eq_true]at h
 unfold Lists.flat at hx
 rw[List.mem_append,List.mem_append]at hx
 rcases hx with(hx|hx)|hx
 ·have:=of_decide_eq_true (h.1 x hx);exact⟨this.1,this.2.2⟩
 ·have:=of_decide_eq_true (h.2.1 x hx);exact⟨this.1,this.2.2⟩
 ·have:=of_decide_eq_true (h.2.2 x hx);exact⟨this.1,this.2.2⟩
open Go.Proofs Go.Proofs.YtlankjlnnimdoaaGreatDoor
set_option maxRecDepth 8000
theorem zwo {h:Hp} (a:h.free.l0.length<=4000000000) (b:h.free.l1.length<=4000000000) (c:h.free.l2.length<=4000000000):h.light:=by
 unfold Hp.light zk
 simp[zn,Lists.flat]
 omega
theorem zsM (l:List Int) (x:Int):Spec X 135 [] [.c (.d (.sl .int l)),.int x] (Ret [] (.int (zmL (zeI (fun y=>x==y) l)))):=by
 refine zGO X_ok Tryz.f135 fun hb _=>⟨rfl,?_⟩
 have hla:l.length<=zE:=(hb (.c (.d (.sl .int l))) (by simp)).1
 unfold zE at hla
 show ∃n,_
 refine⟨0,ALoop.inv (ι:={i:Nat // i<=l.length/\∀j,j<i->(x==at0 l j)=false}) (fun i=>⟨[(0,.c (.d (.sl .int l))),(1,.int x),(7,.int l.length),(8,.int i.1)],[],32⟩) (fun i=>l.length-i.1) ⟨0,Nat.zero_le _,fun j hj=>absurd hj (by omega)⟩ ?_ ?_⟩
 ·exact⟨[],.cons _ _ _ .same (.cons _ _ _ .same (.cons _ _ _ .same (.cons _ _ _ .same .nil))),.nil,rfl⟩
 ·rintro⟨i,hi,hn⟩
  show ABr (decide ((i:Int)<(l.length:Int))) _ _
  refine⟨fun h=>?_,fun h=>?_⟩
  ·have hlt:i<l.length:=by simpa using h
   show AOb ((0:Int)<=(i:Int)/\(i:Int)<(l.length:Int)) _
   refine⟨by omega,?_⟩
   show ABr (x==l.getD i default) _ _
   refine⟨fun h=>?_,fun h=>?_⟩
   ·show ARet ..
    refine zaZ (x:=(i:Int)) ?_ ⟨rfl,rfl⟩
    rw[zj6 (p:=fun y=>x==y) hlt hn h]
    rfl
   ·show ARound ..
    exact⟨⟨i+1,hlt,fun j hj=>by
     by_cases e:j=i
     ·subst e;exact h
     ·exact hn j (by omega)⟩,by show l.length-(i+1)<l.length-i;omega,[],.cons _ _ _ .same (.cons _ _ _ .same (.cons _ _ _ .same (.cons _ _ _ (.int_eq (zad (i:=i) (by unfold zE;omega))) .nil))),.nil,rfl⟩
  ·have hge:i=l.length:=by simp at h;omega
   show ARet ..
   refine zaZ (x:=-1) ?_ ⟨rfl,rfl⟩
   rw[zjP (p:=fun y=>x==y) fun y hy=>?_]
   ·rfl
   ·obtain⟨j,hj,e⟩:=List.mem_iff_getElem.1 hy
    have:=hn j (by omega)
    rw[show at0 l j=y from by unfold at0;rw[List.getD_eq_getElem?_getD,List.getElem?_eq_getElem hj,e];rfl]at this
    exact this
theorem zm2 (l:List Int) (x:Int):Spec X 97 [] [.c (.d (.sl .int l)),.int x] (Ret [] (.bo (l.contains x))):=by
 refine zGO X_ok Tryz.f97 fun hb _=>⟨rfl,?_⟩
 show ACall ..
 refine za (zsM l x) rfl ?_
 show ARet ..
 refine zt (x:=decide (zmL (zeI (fun y=>x==y) l)>=0)) ?_ ⟨rfl,rfl⟩
 rw[zoh]
 exact(List.any_beq (l:=l) (a:=x))
def zbb (g:Hp) (a:Int):Int:=bif zx g [] then (bif decide (16<=a/\a<16+(g.w.length:Int)) then 0 else 3) else 1
def zbM (g:Hp) (a:Int):Int:=bif decide (zbb g a=0) then (a-16) / 8 else 0
def zcO (g:Hp) (c:Int) (b:Bool):Hp:=⟨g.w,g.pages,g.free,g.cards.set c.toNat b⟩
def zaY (g:Hp) (a:Int):Hp:=bif decide (zbb g a=0) then zcO g (zbM g a) true else Hp.zero
def zfe (g:Hp) (c:Int):Int:=bif zx g [] then (bif decide (0<=c/\c<(g.cards.length:Int)) then 0 else 3) else 1
def zcy (g:Hp) (c:Int):Hp:=bif decide (zfe g c=0) then zcO g c false else Hp.zero
def zoU (g:Hp) (a:Int):Bool:=decide (zbb g a=0)&&g.cards.getD (zbM g a).toNat false
theorem ziD (l:List Bool) (h:l.length<=zk) (hne:l≠[]):Spec X 65 [] [.c (.d (.sl .bool l))] (Ret [(0,.data .bool l)] (.c (.own 0))):=by
 refine zGO X_ok Tryz.f65 fun hb _=>⟨rfl,?_⟩
 intro b (hnil:b=true->l=[])
 show ABr ..
 refine⟨fun hb=>absurd (hnil hb) hne,fun hb=>?_⟩
 show AOb (0+l.length<=zk) _
 refine⟨by omega,?_⟩
 show ARet ..
 exact⟨[(_,0)],[(0,.data .bool l)],[.c (.own 0)],.cons _ _ _ _ (.c _ _ (.own1 _ _)) .nil,.old 0 _ _ _ _ rfl rfl (.data_eq rfl) .nil,rfl,rfl,rfl⟩
theorem zns (g:Hp) (c:Int) (b:Bool) (hl:g.light) (hs:zC g=true) (hc:0<=c/\c<(g.cards.length:Int)):Spec X 260 [] [g.tv,.int c,.bo b] (Ret [] (zcO g c b).tv):=by
 refine zGO X_ok Tryz.f260 fun hb hH=>⟨rfl,?_⟩
 obtain⟨_,_,h1,h2,h3,h4⟩:=zl hs
 have hf:g.free.l0.length+g.free.l1.length+g.free.l2.length<=zk:=by
  have:=hl
  unfold Hp.light at this
  simp[zn,Lists.flat]at this
  omega
 have hm:1024<=zk:=by decide
 show ADCall ..
 refine .mk _ _ (zd g.w (by omega)) rfl ?_
 show ADCall ..
 refine .mk _ _ (zac g.pages (by omega)) rfl ?_
 show ADCall ..
 refine .mk _ _ (ziD g.cards (by omega) (by intro e;rw[e]at hc;simp at hc;omega)) rfl ?_
 show ∃n,_
 refine⟨4,?_⟩
 show ALoop ..
 refine .next ?_
 refine zYE (by decide) ?_
 show AOb ..
 refine⟨by decide,?_⟩
 show ACall ..
 refine za (zd g.free.l0 (by omega)) rfl ?_
 show AOb ..
 refine⟨by decide,?_⟩
 show ALoop ..
 refine .next ?_
 refine zYE (by decide) ?_
 show AOb ..
 refine⟨by decide,?_⟩
 show ACall ..
 refine za (zd g.free.l1 (by omega)) rfl ?_
 show AOb ..
 refine⟨by decide,?_⟩
 show ALoop ..
 refine .next ?_
 refine zYE (by decide) ?_
 show AOb ..
 refine⟨by decide,?_⟩
 show ACall ..
 refine za (zd g.free.l2 (by omega)) rfl ?_
 show AOb ..
 refine⟨by decide,?_⟩
 show ALoop ..
 refine .next ?_
 refine zNO (by decide) ?_
 show AOb ((0:Int)<=c/\c<(g.cards.length:Int)) _
 refine⟨hc,?_⟩
 show AOb (c.toNat<g.cards.length) _
 refine⟨by omega,?_⟩
 show ARet ..
 exact⟨[],[],_,.cons _ _ _ _ (.agg _ _ (.cons _ _ _ _ (.d _) (.cons _ _ _ _ (.d _) (.cons _ _ _ _ (.d _) (.cons _ _ _ _ (.d _) (.cons _ _ _ _ (.d _) (.cons _ _ _ _ (.frz_eq (k:=.bool) (l:=g.cards.set c.toNat b) rfl rfl) .nil))))))) .nil,.nil,rfl,rfl,rfl⟩
theorem zpC {g:Hp} {a:Int} (h:zbb g a=0):zx g []=true/\16<=a/\a<16+(g.w.length:Int):=by
 unfold zbb at h
 cases hm:zx g [] with
 |false=>rw[hm]at h;exact absurd h (by simp)
 |true=>
  rw[hm]at h
  by_cases hr:16<=a/\a<16+(g.w.length:Int)
  ·exact⟨rfl,hr⟩
  ·rw[decide_eq_false hr]at h;exact absurd h (by simp)
theorem zfw {g:Hp} {a:Int} (h:zx g []=true) (ha:16<=a/\a<16+(g.w.length:Int)):zbb g a=0:=by unfold zbb;rw[h,decide_eq_true ha];rfl
theorem zig {g:Hp} {a:Int} (h:zbb g a=0):zbM g a=(a-16) / 8:=by unfold zbM;rw[h];rfl
theorem zjS {g:Hp} {a:Int} (h:zbb g a≠0):zbM g a=0:=by unfold zbM;rw[decide_eq_false h];rfl
theorem zt3 {g:Hp} {a:Int} (h:zbb g a=0):0<=zbM g a/\zbM g a<(g.cards.length:Int):=by
 obtain⟨hm,h1,h2⟩:=zpC h
 obtain⟨_,_,h3,h4,_⟩:=zl (zA hm)
 rw[zig h]
 omega
theorem zmT (g:Hp) (a:Int) (hl:g.light) (ha:a<9223372036854775808):Spec X 131 [] [g.tv,.int a] (Ret [] (.tup [.int (zbM g a),.int (zbb g a)])):=by
 refine zGO X_ok Tryz.f131 fun hb hH=>⟨rfl,?_⟩
 show ACall ..
 refine za (zbQ g hl) rfl ?_
 show ABr (!zx g []) _ _
 refine⟨fun h=>?_,fun h=>?_⟩
 ·have hm:zx g []=false:=by simpa using h
  have hE:zbb g a=1:=by unfold zbb;rw[hm];rfl
  rw[hE,zjS (by rw[hE];decide)]
  show ARet ..
  exact zi rfl ⟨rfl,rfl⟩
 have hm:zx g []=true:=by simpa using h
 have hs:=zA hm
 obtain⟨_,_,hsl,_,hp1,hp2⟩:=zl hs
 have ho:¬(16<=a/\a<16+(g.w.length:Int))->zbb g a=3:=fun h=>by unfold zbb;rw[hm,decide_eq_false h];rfl
 show ABr (decide (a<16)) _ _
 refine⟨fun h=>?_,fun h=>?_⟩
 ·have hE:=ho (by have:=of_decide_eq_true h;omega)
  rw[hE,zjS (by rw[hE];decide)]
  show ABr (decide (a<16)) _ _
  rw[h]
  refine zYE (by decide) ?_
  show ARet ..
  exact zi rfl ⟨rfl,rfl⟩
 ·have h16:=of_decide_eq_false h
  have ew:IntKind.i64.wrap (a-16)=a-16:=zB (by omega) (by omega)
  show ABr (decide (IntKind.i64.wrap (a-16)>=(g.w.length:Int))) _ _
  rw[ew]
  refine⟨fun h=>?_,fun h=>?_⟩
  ·have hE:=ho (by have:=of_decide_eq_true h;omega)
   rw[hE,zjS (by rw[hE];decide)]
   show ARet ..
   exact zi rfl ⟨rfl,rfl⟩
  ·have hin:16<=a/\a<16+(g.w.length:Int):=by have:=of_decide_eq_false h;omega
   have hE:=zfw hm hin
   have ed:tdv (IntKind.i64.wrap (a-16)) 8=(a-16) / 8:=by rw[ew];exact zmP (by omega) (by omega) (by omega)
   rw[hE,zig hE,←ed]
   show AOb ..
   refine⟨by decide,?_⟩
   show ARet ..
   exact zi rfl ⟨rfl,rfl⟩
theorem zip (g:Hp) (a:Int) (hl:g.light) (ha:a<9223372036854775808):Spec X 238 [] [g.tv,.int a] (Ret [] (.tup [(zaY g a).tv,.int (zbb g a)])):=by
 refine zGO X_ok Tryz.f238 fun hb hH=>⟨rfl,?_⟩
 show ACall ..
 refine za (zmT g a hl ha) rfl ?_
 show ABr (zbb g a != 0) _ _
 refine⟨fun h=>?_,fun h=>?_⟩
 ·have hE:zbb g a≠0:=by simpa using h
  rw[show zaY g a=Hp.zero from by unfold zaY;rw[decide_eq_false hE];rfl]
  show ARet ..
  exact⟨[],[],_,.cons _ _ _ _ (.agg _ _ (.cons _ _ _ _ (.nilsl .int) (.cons _ _ _ _ (.nilsl .page) (.cons _ _ _ _ (.nilsl .int) (.cons _ _ _ _ (.nilsl .int) (.cons _ _ _ _ (.nilsl .int) (.cons _ _ _ _ (.nilsl .bool) .nil))))))) (.cons _ _ _ _ .same .nil),.nil,rfl,rfl,rfl⟩
 ·have hE:zbb g a=0:=by simpa using h
  have hs:=zA (zpC hE).1
  rw[show zaY g a=zcO g (zbM g a) true from by unfold zaY;rw[hE];rfl,hE]
  show ACall ..
  refine za (zns g (zbM g a) true hl hs (zt3 hE)) rfl ?_
  show ARet ..
  exact zi rfl ⟨rfl,rfl⟩
theorem zrN (g:Hp) (c:Int) (hl:g.light):Spec X 242 [] [g.tv,.int c] (Ret [] (.tup [(zcy g c).tv,.int (zfe g c)])):=by
 refine zGO X_ok Tryz.f242 fun hb hH=>⟨rfl,?_⟩
 show ACall ..
 refine za (zbQ g hl) rfl ?_
 show ABr (!zx g []) _ _
 refine⟨fun h=>?_,fun h=>?_⟩
 ·have hm:zx g []=false:=by simpa using h
  have hE:zfe g c=1:=by unfold zfe;rw[hm];rfl
  rw[show zcy g c=Hp.zero from by unfold zcy;rw[hE];rfl,hE]
  show ARet ..
  exact⟨[],[],_,.cons _ _ _ _ (.agg _ _ (.cons _ _ _ _ (.nilsl .int) (.cons _ _ _ _ (.nilsl .page) (.cons _ _ _ _ (.nilsl .int) (.cons _ _ _ _ (.nilsl .int) (.cons _ _ _ _ (.nilsl .int) (.cons _ _ _ _ (.nilsl .bool) .nil))))))) (.cons _ _ _ _ .same .nil),.nil,rfl,rfl,rfl⟩
 have hm:zx g []=true:=by simpa using h
 have hs:=zA hm
 have ho:¬(0<=c/\c<(g.cards.length:Int))->zfe g c=3:=fun h=>by unfold zfe;rw[hm,decide_eq_false h];rfl
 show ABr (decide (c<0)) _ _
 refine⟨fun h=>?_,fun h=>?_⟩
 ·have hE:=ho (by have:=of_decide_eq_true h;omega)
  rw[show zcy g c=Hp.zero from by unfold zcy;rw[hE];rfl,hE]
  show ABr (decide (c<0)) _ _
  rw[h]
  refine zYE (by decide) ?_
  show ARet ..
  exact⟨[],[],_,.cons _ _ _ _ (.agg _ _ (.cons _ _ _ _ (.nilsl .int) (.cons _ _ _ _ (.nilsl .page) (.cons _ _ _ _ (.nilsl .int) (.cons _ _ _ _ (.nilsl .int) (.cons _ _ _ _ (.nilsl .int) (.cons _ _ _ _ (.nilsl .bool) .nil))))))) (.cons _ _ _ _ .same .nil),.nil,rfl,rfl,rfl⟩
 ·have hc0:=of_decide_eq_false h
  show ABr (decide (c>=(g.cards.length:Int))) _ _
  refine⟨fun h=>?_,fun h=>?_⟩
  ·have hE:=ho (by have:=of_decide_eq_true h;omega)
   rw[show zcy g c=Hp.zero from by unfold zcy;rw[hE];rfl,hE]
   show ARet ..
   exact⟨[],[],_,.cons _ _ _ _ (.agg _ _ (.cons _ _ _ _ (.nilsl .int) (.cons _ _ _ _ (.nilsl .page) (.cons _ _ _ _ (.nilsl .int) (.cons _ _ _ _ (.nilsl .int) (.cons _ _ _ _ (.nilsl .int) (.cons _ _ _ _ (.nilsl .bool) .nil))))))) (.cons _ _ _ _ .same .nil),.nil,rfl,rfl,rfl⟩
  ·have hin:0<=c/\c<(g.cards.length:Int):=by have:=of_decide_eq_false h;omega
   have hE:zfe g c=0:=by unfold zfe;rw[hm,decide_eq_true hin];rfl
   rw[show zcy g c=zcO g c false from by unfold zcy;rw[hE];rfl,hE]
   show ACall ..
   refine za (zns g c false hl hs hin) rfl ?_
   show ARet ..
   exact zi rfl ⟨rfl,rfl⟩
theorem zx1 (g:Hp) (a:Int) (hl:g.light) (ha:a<9223372036854775808):Spec X 92 [] [g.tv,.int a] (Ret [] (.bo (zoU g a))):=by
 refine zGO X_ok Tryz.f92 fun hb hH=>⟨rfl,?_⟩
 show ACall ..
 refine za (zmT g a hl ha) rfl ?_
 have hin:(zbb g a==0)=true/\True->0<=zbM g a/\zbM g a<(g.cards.length:Int):=fun h=>zt3 (by simpa using h.1)
 show AOb ((zbb g a==0)=true/\True->0<=zbM g a/\zbM g a<(g.cards.length:Int)) _
 refine⟨hin,?_⟩
 show ARet ..
 refine zt (x:=bif zbb g a==0 then g.cards.getD (zbM g a).toNat default else false) ?_ ⟨rfl,rfl⟩
 unfold zoU
 by_cases h:zbb g a=0
 ·rw[h];rfl
 ·have h' : (zbb g a==0)=false:=by simp[h]
  rw[h',decide_eq_false h]
  rfl
theorem zjl (g:Hp) (c:Int) (b:Bool) (cs:List Lists):zx (zcO g c b) cs=zx g cs:=by
 have hs:zC (zcO g c b)=zC g:=by unfold zC zcO;simp only[List.length_set]
 unfold zx
 rw[hs]
 rfl
theorem zfO (g:Hp) (c:Int) (b:Bool) (cs:List Lists):zq (zcO g c b) cs=zq g cs:=by
 unfold zq
 rw[zjl]
 rfl
theorem zuC (g:Hp) (c:Int) (b:Bool):zu (zcO g c b)=zu g:=by
 unfold zu
 rw[zjl]
 rfl
theorem zen (g:Hp) (c:Int) (b:Bool) (a:Int):headE (zcO g c b) a=headE g a:=by
 unfold headE
 rw[zjl]
 rfl
theorem zid (g:Hp) (c:Int) (b:Bool) (a:Int):headH (zcO g c b) a=headH g a:=by
 unfold headH
 rw[zen]
 rfl
theorem zw1 (g:Hp) (c:Int) (b:Bool):(zcO g c b).cards.length=g.cards.length:=by unfold zcO;simp
theorem zlF {g:Hp} {a:Int} (h:zbb g a=0):zaY g a=zcO g (zbM g a) true:=by unfold zaY;rw[h];rfl
theorem zrG {g:Hp} {c:Int} (h:zfe g c=0):zcy g c=zcO g c false:=by unfold zcy;rw[h];rfl
def zb2 (c:Col) (x:Hd):Int:=bif (bif (bif (bif x.old then !c.major else false) then true else decide (c.epoch<0)) then true else decide (c.epoch>1048576)) then 0 else (bif decide (x.mark<c.epoch) then 1 else (bif x.done then 3 else 2))
def atK (g:Hp) (c:Col) (a:Int):Int:=bif decide (headE g a=0) then zb2 c (headH g a) else 0
theorem zpY (c:Col) (x:Hd):Spec X 134 [] [c.tv,x.tv] (Ret [] (.int (zb2 c x))):=by
 refine zGO X_ok Tryz.f134 fun hb hH=>⟨rfl,?_⟩
 unfold zb2
 obtain⟨u,o,d,n,b,m⟩:=x
 show ABr ((bif o then !c.major else false)) _ _
 refine⟨fun h=>?_,fun h=>?_⟩
 ·rw[h]
  refine zYE (by decide) ?_
  show ARet ..
  exact zi rfl ⟨rfl,rfl⟩
 ·rw[h]
  show ABr ((decide (c.epoch<0))) _ _
  refine⟨fun h=>?_,fun h=>?_⟩
  ·rw[h]
   refine zYE (by decide) ?_
   show ARet ..
   exact zi rfl ⟨rfl,rfl⟩
  ·rw[h]
   show ABr ((decide (c.epoch>1048576))) _ _
   refine⟨fun h=>?_,fun h=>?_⟩
   ·rw[h]
    show ARet ..
    exact zi rfl ⟨rfl,rfl⟩
   ·rw[h]
    show ABr ((decide (m<c.epoch))) _ _
    refine⟨fun h=>?_,fun h=>?_⟩
    ·rw[h]
     show ARet ..
     exact zi rfl ⟨rfl,rfl⟩
    ·rw[h]
     show ABr (d) _ _
     refine⟨fun h=>?_,fun h=>?_⟩
     ·rw[h]
      show ARet ..
      exact zi rfl ⟨rfl,rfl⟩
     ·rw[h]
      show ARet ..
      exact zi rfl ⟨rfl,rfl⟩
theorem ztw (g:Hp) (c:Col) (a:Int) (hl:g.light):Spec X 96 [] [g.tv,c.tv,.int a] (Ret [] (.tup [(headH g a).tv,.int (atK g c a)])):=by
 refine zGO X_ok Tryz.f96 fun hb hH=>⟨rfl,?_⟩
 show ACall ..
 refine za (zaJ g a hl) rfl ?_
 show ABr (headE g a != 0) _ _
 refine⟨fun h=>?_,fun h=>?_⟩
 ·have hE:headE g a≠0:=by simpa using h
  rw[show atK g c a=0 from by unfold atK;rw[decide_eq_false hE];rfl]
  show ARet ..
  exact zi rfl ⟨rfl,rfl⟩
 ·have hE:headE g a=0:=by simpa using h
  rw[show atK g c a=zb2 c (headH g a) from by unfold atK;rw[decide_eq_true hE];rfl]
  show ADCall ..
  refine .mk _ _ (zpY c (headH g a)) rfl ?_
  show ARet ..
  exact zi rfl ⟨rfl,rfl⟩
theorem zh9 (l:List Int) (h:l.length<=zk):Spec X 63 [] [.c (.d (.sl .int l))] (Ret [(0,.data .int l)] (.c (.own 0))):=by
 refine zGO X_ok Tryz.f63 fun hb _=>⟨rfl,?_⟩
 intro b (hnil:b=true->l=[])
 show ABr ..
 refine⟨fun hb=>?_,fun hb=>?_⟩
 ·have hl:=hnil hb
  subst hl
  show ARet ..
  exact⟨[],[(0,.data .int [])],[.c (.own 0)],.cons _ _ _ _ (.c _ _ (.nilown 0 .int rfl rfl)) .nil,.new 0 .int _ rfl .nil,rfl,rfl,rfl⟩
 show AOb (0+l.length<=zk) _
 refine⟨by omega,?_⟩
 show ARet ..
 exact⟨[(_,0)],[(0,.data .int l)],[.c (.own 0)],.cons _ _ _ _ (.c _ _ (.own1 _ _)) .nil,.old 0 _ _ _ _ rfl rfl (.data_eq rfl) .nil,rfl,rfl,rfl⟩
def Col.own (c:Col):TV:=.agg [.d (DV.int c.phase),.d (DV.int c.epoch),.d (DV.bo c.major),.own 0,.d (DV.bo c.over),.d (DV.int c.at_),.d (DV.int c.field_),.d (DV.int c.seek),.d (DV.int c.card),.d (DV.bo c.met)]
theorem zvb (c:Col) (h:c.work.length<=zk):Spec X 185 [] [c.tv] (Ret [(0,.data .int c.work)] c.own):=by
 refine zGO X_ok Tryz.f185 fun hb hH=>⟨rfl,?_⟩
 show ACall ..
 refine .mk _ (zh9 c.work h) fun H r hq _ _=>?_
 obtain⟨rfl,rfl⟩:=hq
 refine⟨.inl rfl,?_⟩
 show ARet ..
 exact⟨[(_,0)],[(0,.data .int c.work)],[c.own],.cons _ _ _ _ (.agg _ _ (.cons _ _ _ _ (.d _) (.cons _ _ _ _ (.d _) (.cons _ _ _ _ (.d _) (.cons _ _ _ _ (.own1 _ _) (.cons _ _ _ _ (.d _) (.cons _ _ _ _ (.d _) (.cons _ _ _ _ (.d _) (.cons _ _ _ _ (.d _) (.cons _ _ _ _ (.d _) (.cons _ _ _ _ (.d _) .nil))))))))))) .nil,.old 0 _ _ _ _ rfl rfl (.data_eq rfl) .nil,rfl,rfl,rfl⟩
def Hp.small (g:Hp):Prop:=g.w.length<=zk/\g.pages.length<=zk/\g.cards.length<=zk/\g.free.l0.length<=zk/\g.free.l1.length<=zk/\g.free.l2.length<=zk
theorem zkJ (g:Hp) (hs:g.small):Spec X 186 [] [g.tv] (Ret [] g.tv):=by
 refine zGO X_ok Tryz.f186 fun hb hH=>⟨rfl,?_⟩
 obtain⟨h1,h2,h3,h4,h5,h6⟩:=hs
 show ADCall ..
 refine .mk _ _ (zd g.w h1) rfl ?_
 show ADCall ..
 refine .mk _ _ (zac g.pages h2) rfl ?_
 show ADCall ..
 refine .mk _ _ (zah g.cards h3) rfl ?_
 show ∃n,_
 refine⟨4,?_⟩
 show ALoop ..
 refine .next ?_
 refine zYE (by decide) ?_
 show AOb ..
 refine⟨by decide,?_⟩
 show ACall ..
 refine za (zd g.free.l0 h4) rfl ?_
 show AOb ..
 refine⟨by decide,?_⟩
 show ALoop ..
 refine .next ?_
 refine zYE (by decide) ?_
 show AOb ..
 refine⟨by decide,?_⟩
 show ACall ..
 refine za (zd g.free.l1 h5) rfl ?_
 show AOb ..
 refine⟨by decide,?_⟩
 show ALoop ..
 refine .next ?_
 refine zYE (by decide) ?_
 show AOb ..
 refine⟨by decide,?_⟩
 show ACall ..
 refine za (zd g.free.l2 h6) rfl ?_
 show AOb ..
 refine⟨by decide,?_⟩
 show ALoop ..
 refine .next ?_
 refine zNO (by decide) ?_
 show ARet ..
 exact zi rfl ⟨rfl,rfl⟩
def zhX (g:Hp) (c:Col) (a:Int):Hd:={headH g a with mark:=c.epoch,done:=false}
def zH (g:Hp) (c:Col) (a:Int):Hp:=bif decide (atK g c a=1) then zgx g a (zhX g c a) else g
def zG (g:Hp) (c:Col) (a:Int):Col:=bif decide (atK g c a=1) then (bif decide ((c.work.length:Int)<4) then {c with work:=c.work++[a]} else {c with over:=true}) else c
def zhK (g:Hp) (a:Int):Hd:={headH g a with done:=true}
def zak (g:Hp) (c:Col) (a:Int):Hp:=bif decide (atK g c a=2) then zgx g a (zhK g a) else g
theorem zcx (g:Hp) (c:Col) (a:Int) (hl:g.light) (hs:g.small) (hw:c.work.length<zk):Spec X 145 [] [g.tv,c.tv,.int a] (Ret [] (.tup [(zH g c a).tv,(zG g c a).tv])):=by
 refine zGO X_ok Tryz.f145 fun hb hH=>⟨rfl,?_⟩
 show ACall ..
 refine za (ztw g c a hl) rfl ?_
 show ACall ..
 refine .mk _ (zvb c (by omega)) fun H r hq _ _=>?_
 obtain⟨rfl,rfl⟩:=hq
 refine⟨.inl rfl,?_⟩
 show ABr (atK g c a != 1) _ _
 refine⟨fun h=>?_,fun h=>?_⟩
 ·have hk:atK g c a≠1:=by simpa using h
  have e1:zH g c a=g:=by unfold zH;rw[decide_eq_false hk];rfl
  have e2:zG g c a=c:=by unfold zG;rw[decide_eq_false hk];rfl
  rw[e1,e2]
  show ADCall ..
  refine .mk _ _ (zkJ g hs) rfl ?_
  show ARet ..
  exact⟨[],[],_,.cons _ _ _ _ (.agg _ _ (.cons _ _ _ _ (.d _) (.cons _ _ _ _ (.d _) (.cons _ _ _ _ (.d _) (.cons _ _ _ _ (.d _) (.cons _ _ _ _ (.d _) (.cons _ _ _ _ (.d _) .nil))))))) (.cons _ _ _ _ (.agg _ _ (.cons _ _ _ _ (.d _) (.cons _ _ _ _ (.d _) (.cons _ _ _ _ (.d _) (.cons _ _ _ _ (.frz_eq (k:=.int) (l:=c.work) rfl rfl) (.cons _ _ _ _ (.d _) (.cons _ _ _ _ (.d _) (.cons _ _ _ _ (.d _) (.cons _ _ _ _ (.d _) (.cons _ _ _ _ (.d _) (.cons _ _ _ _ (.d _) .nil))))))))))) .nil),.nil,rfl,rfl,rfl⟩
 ·have hk:atK g c a=1:=by simpa using h
  have e1:zH g c a=zgx g a (zhX g c a):=by unfold zH;rw[decide_eq_true hk];rfl
  have e2:zG g c a=(bif decide ((c.work.length:Int)<4) then {c with work:=c.work++[a]} else {c with over:=true}):=by unfold zG;rw[decide_eq_true hk];rfl
  rw[e1,e2]
  show ACall ..
  refine za (zjZ g a (zhX g c a) hl) rfl ?_
  show ABr (decide ((c.work.length:Int)<4)) _ _
  refine⟨fun h=>?_,fun h=>?_⟩
  ·rw[h]
   show AOb (c.work.length+1<=zk) _
   refine⟨by omega,?_⟩
   show ARet ..
   exact⟨[],[],_,.cons _ _ _ _ (.agg _ _ (.cons _ _ _ _ (.d _) (.cons _ _ _ _ (.d _) (.cons _ _ _ _ (.d _) (.cons _ _ _ _ (.d _) (.cons _ _ _ _ (.d _) (.cons _ _ _ _ (.d _) .nil))))))) (.cons _ _ _ _ (.agg _ _ (.cons _ _ _ _ (.d _) (.cons _ _ _ _ (.d _) (.cons _ _ _ _ (.d _) (.cons _ _ _ _ (.frz_eq (k:=.int) (l:=c.work++[a]) rfl rfl) (.cons _ _ _ _ (.d _) (.cons _ _ _ _ (.d _) (.cons _ _ _ _ (.d _) (.cons _ _ _ _ (.d _) (.cons _ _ _ _ (.d _) (.cons _ _ _ _ (.d _) .nil))))))))))) .nil),.nil,rfl,rfl,rfl⟩
  ·rw[h]
   show ARet ..
   exact⟨[],[],_,.cons _ _ _ _ (.agg _ _ (.cons _ _ _ _ (.d _) (.cons _ _ _ _ (.d _) (.cons _ _ _ _ (.d _) (.cons _ _ _ _ (.d _) (.cons _ _ _ _ (.d _) (.cons _ _ _ _ (.d _) .nil))))))) (.cons _ _ _ _ (.agg _ _ (.cons _ _ _ _ (.d _) (.cons _ _ _ _ (.d _) (.cons _ _ _ _ (.d _) (.cons _ _ _ _ (.frz_eq (k:=.int) (l:=c.work) rfl rfl) (.cons _ _ _ _ (.d _) (.cons _ _ _ _ (.d _) (.cons _ _ _ _ (.d _) (.cons _ _ _ _ (.d _) (.cons _ _ _ _ (.d _) (.cons _ _ _ _ (.d _) .nil))))))))))) .nil),.nil,rfl,rfl,rfl⟩
theorem ziS (g:Hp) (c:Col) (a:Int) (hl:g.light) (hs:g.small):Spec X 246 [] [g.tv,c.tv,.int a] (Ret [] (.tup [(zak g c a).tv,.bo (decide (atK g c a=2))])):=by
 refine zGO X_ok Tryz.f246 fun hb hH=>⟨rfl,?_⟩
 show ACall ..
 refine za (ztw g c a hl) rfl ?_
 show ABr (atK g c a != 2) _ _
 refine⟨fun h=>?_,fun h=>?_⟩
 ·have hk:atK g c a≠2:=by simpa using h
  have e1:zak g c a=g:=by unfold zak;rw[decide_eq_false hk];rfl
  rw[e1,decide_eq_false hk]
  show ACall ..
  refine za (zkJ g hs) rfl ?_
  show ARet ..
  exact zi rfl ⟨rfl,rfl⟩
 ·have hk:atK g c a=2:=by simpa using h
  have e1:zak g c a=zgx g a (zhK g a):=by unfold zak;rw[decide_eq_true hk];rfl
  rw[e1,decide_eq_true hk]
  show ACall ..
  refine za (zjZ g a (zhK g a) hl) rfl ?_
  show ARet ..
  exact zi rfl ⟨rfl,rfl⟩
def inP (low high a:Int):Bool:=decide (a>=low)&&decide (a<high)
def zcG (a:List Int) (low high:Int) (i:Nat):List Int:=(a.take i).filter (inP low high)
def zbu (a:List Int) (low high:Int) (i:Nat):List Int:=(a.take i).filter fun x=>!inP low high x
theorem zin (a:List Int) (low high:Int) (i:Nat) (h:i<a.length):zcG a low high (i+1)=if inP low high (at0 a i) then zcG a low high i++[at0 a i] else zcG a low high i:=by
 unfold zcG
 rw[List.take_add_one,List.getElem?_eq_getElem h,List.filter_append,zcT h]
 cases hp:inP low high a[i]<;>simp[hp]
theorem zgB (a:List Int) (low high:Int) (i:Nat) (h:i<a.length):zbu a low high (i+1)=if inP low high (at0 a i) then zbu a low high i else zbu a low high i++[at0 a i]:=by
 unfold zbu
 rw[List.take_add_one,List.getElem?_eq_getElem h,List.filter_append,zcT h]
 cases hp:inP low high a[i]<;>simp[hp]
theorem zjK (a:List Int) (low high:Int) (i:Nat):(zcG a low high i).length<=i:=Nat.le_trans (List.length_filter_le _ _) (by simp;omega)
theorem zis (a:List Int) (low high:Int) (i:Nat):(zbu a low high i).length<=i:=Nat.le_trans (List.length_filter_le _ _) (by simp;omega)
theorem zvs (l:Lists) (c low high:Int) (h:0<=c/\c<=2) (hok:l.ok):Spec X 263 [] [l.tv,.int c,.int low,.int high]
  (Ret [] (.tup [(l.set_ c (zbu (l.at_ c) low high (l.at_ c).length)).tv,.c (.d (.sl .int (zcG (l.at_ c) low high (l.at_ c).length))),.int 0])):=by
 refine zGO X_ok Tryz.f263 fun _ _=>⟨rfl,?_⟩
 have hc:c=0\/c=1\/c=2:=by omega
 rcases hc with rfl|rfl|rfl
 ·have hm:l.l0.length<=68719476736:=hok.1
  show ACall ..
  refine za (zct 0) rfl ?_
  show ABr ..
  refine⟨fun hb=>absurd hb (by decide),fun _=>?_⟩
  show ACall ..
  refine .mk _ (zaG l hok) ?_
  rintro H r ⟨rfl,rfl⟩ _ _
  refine⟨.inl rfl,?_⟩
  show AOb ((0:Int)<=0/\(0:Int)<3) _
  refine⟨by decide,?_⟩
  show ∃n,_
  refine⟨0,ALoop.inv (ι:={i:Nat // i<=l.l0.length}) (fun i=>⟨[(1,.int 0),(2,.int low),(3,.int high),(4,.c (.ptr 0 0 0)),(8,.c (.ptr 1 0 0)),(11,.c (.own 5)),(12,.c (.own 6)),(23,.c (.own 2)),(24,.int l.l0.length),(25,.int i.1)],[(0,.vars [.own 2,.own 3,.own 4]),(1,.vars [.d .nilsl,.d .nilsl,.d .nilsl]),(2,.data .int l.l0),(3,.data .int l.l1),(4,.data .int l.l2),(5,.data .int (zcG l.l0 low high i.1)),(6,.data .int (zbu l.l0 low high i.1))],32⟩) (fun i=>l.l0.length-i.1) ⟨0,Nat.zero_le _⟩ ?_ ?_⟩
  ·exact⟨[(32,0),(64,1),(288,2),(289,3),(290,4)],.cons _ _ _ .same (.cons _ _ _ .same (.cons _ _ _ .same (.cons _ _ _ (.c _ _ (.ptr _ _ _ _ rfl)) (.cons _ _ _ (.c _ _ (.ptr _ _ _ _ rfl)) (.cons _ _ _ (.c _ _ (.nilown 5 .int rfl rfl)) (.cons _ _ _ (.c _ _ (.nilown 6 .int rfl rfl)) (.cons _ _ _ (.c _ _ (.own _ _ rfl)) (.cons _ _ _ .same (.cons _ _ _ .same .nil))))))))),.old 0 32 _ _ _ rfl rfl (.vars _ _ (.cons _ _ _ _ (.own _ _ rfl) (.cons _ _ _ _ (.own _ _ rfl) (.cons _ _ _ _ (.own _ _ rfl) .nil)))) (.old 1 64 _ _ _ rfl rfl (.vars _ _ (zb rfl)) (.old 2 288 _ _ _ rfl rfl (.data_eq rfl) (.old 3 289 _ _ _ rfl rfl (.data_eq rfl) (.old 4 290 _ _ _ rfl rfl (.data_eq rfl) (.new 5 .int _ rfl (.new 6 .int _ rfl .nil)))))),rfl⟩
  ·rintro⟨i,hi⟩
   have ho:=zjK l.l0 low high i
   have hs:=zis l.l0 low high i
   show ABr (decide ((i:Int)<(l.l0.length:Int))) _ _
   refine⟨fun h2=>?_,fun h2=>?_⟩
   ·have hlt:i<l.l0.length:=by simpa using h2
    have e1:=zin l.l0 low high i hlt
    have e2:=zgB l.l0 low high i hlt
    show AOb ((0:Int)<=(i:Int)/\(i:Int)<(l.l0.length:Int)) _
    refine⟨by omega,?_⟩
    show AOb ((i:Int).toNat<l.l0.length) _
    refine⟨by omega,?_⟩
    show ABr (cond (decide (at0 l.l0 i>=low)) (decide (at0 l.l0 i<high)) false) _ _
    refine⟨fun h3=>?_,fun h3=>?_⟩
    ·have hp:inP low high (at0 l.l0 i)=true:=by unfold inP;simpa using h3
     rw[if_pos hp]at e1 e2
     show AOb ((zcG l.l0 low high i).length+1<=zk) _
     refine⟨by unfold zk;omega,?_⟩
     show ARound ..
     refine⟨⟨i+1,hlt⟩,Nat.sub_lt_sub_left hlt (Nat.lt_succ_self i),[(_,5),(0,0),(1,1),(2,2),(3,3),(4,4),(6,6)],.cons _ _ _ .same (.cons _ _ _ .same (.cons _ _ _ .same (.cons _ _ _ (.c _ _ (.ptr _ _ _ _ rfl)) (.cons _ _ _ (.c _ _ (.ptr _ _ _ _ rfl)) (.cons _ _ _ (.c _ _ (.own1 _ _)) (.cons _ _ _ (.c _ _ (.own _ _ rfl)) (.cons _ _ _ (.c _ _ (.own _ _ rfl)) (.cons _ _ _ .same (.cons _ _ _ (.int_eq (zad (i:=i) (by unfold zE;omega))) .nil))))))))),.old 0 0 _ _ _ rfl rfl (.vars _ _ (.cons _ _ _ _ (.own _ _ rfl) (.cons _ _ _ _ (.own _ _ rfl) (.cons _ _ _ _ (.own _ _ rfl) .nil)))) (.old 1 1 _ _ _ rfl rfl (.vars _ _ (zb rfl)) (.old 2 2 _ _ _ rfl rfl (.data_eq rfl) (.old 3 3 _ _ _ rfl rfl (.data_eq rfl) (.old 4 4 _ _ _ rfl rfl (.data_eq rfl) (.old 5 _ _ _ _ rfl rfl (.data_eq ?_) (.old 6 6 _ _ _ rfl rfl (.data_eq ?_) .nil)))))),rfl⟩
     ·exact e1.symm
     ·exact e2.symm
    ·have hp:¬inP low high (at0 l.l0 i)=true:=by unfold inP;simpa using h3
     rw[if_neg hp]at e1 e2
     show AOb ((zbu l.l0 low high i).length+1<=zk) _
     refine⟨by unfold zk;omega,?_⟩
     show ARound ..
     refine⟨⟨i+1,hlt⟩,Nat.sub_lt_sub_left hlt (Nat.lt_succ_self i),[(_,6),(0,0),(1,1),(2,2),(3,3),(4,4),(5,5)],.cons _ _ _ .same (.cons _ _ _ .same (.cons _ _ _ .same (.cons _ _ _ (.c _ _ (.ptr _ _ _ _ rfl)) (.cons _ _ _ (.c _ _ (.ptr _ _ _ _ rfl)) (.cons _ _ _ (.c _ _ (.own _ _ rfl)) (.cons _ _ _ (.c _ _ (.own1 _ _)) (.cons _ _ _ (.c _ _ (.own _ _ rfl)) (.cons _ _ _ .same (.cons _ _ _ (.int_eq (zad (i:=i) (by unfold zE;omega))) .nil))))))))),.old 0 0 _ _ _ rfl rfl (.vars _ _ (.cons _ _ _ _ (.own _ _ rfl) (.cons _ _ _ _ (.own _ _ rfl) (.cons _ _ _ _ (.own _ _ rfl) .nil)))) (.old 1 1 _ _ _ rfl rfl (.vars _ _ (zb rfl)) (.old 2 2 _ _ _ rfl rfl (.data_eq rfl) (.old 3 3 _ _ _ rfl rfl (.data_eq rfl) (.old 4 4 _ _ _ rfl rfl (.data_eq rfl) (.old 5 5 _ _ _ rfl rfl (.data_eq ?_) (.old 6 _ _ _ _ rfl rfl (.data_eq ?_) .nil)))))),rfl⟩
     ·exact e1.symm
     ·exact e2.symm
   ·have hge:i=l.l0.length:=by simp at h2;omega
    show AOb ((0:Int)<=0/\(0:Int)<3) _
    refine⟨by decide,?_⟩
    show ARet ..
    refine⟨[],[],[(l.set_ 0 (zbu (l.at_ 0) low high (l.at_ 0).length)).tv,.c (.d (.sl .int (zcG (l.at_ 0) low high (l.at_ 0).length))),.int 0],.cons _ _ _ _ (.agg _ _ (.cons _ _ _ _ (.frz_eq rfl ?_) (.cons _ _ _ _ (.frz _ _ rfl) (.cons _ _ _ _ (.frz _ _ rfl) .nil)))) (.cons _ _ _ _ (.frz rfl ?_) (.cons _ _ _ _ .same .nil)),.nil,rfl,rfl,rfl⟩
    ·show zbu l.l0 low high i=_
     rw[hge];rfl
    ·show zcG l.l0 low high i=_
     rw[hge];rfl
 ·have hm:l.l1.length<=68719476736:=hok.2.1
  show ACall ..
  refine za (zct 1) rfl ?_
  show ABr ..
  refine⟨fun hb=>absurd hb (by decide),fun _=>?_⟩
  show ACall ..
  refine .mk _ (zaG l hok) ?_
  rintro H r ⟨rfl,rfl⟩ _ _
  refine⟨.inl rfl,?_⟩
  show AOb ((0:Int)<=1/\(1:Int)<3) _
  refine⟨by decide,?_⟩
  show ∃n,_
  refine⟨0,ALoop.inv (ι:={i:Nat // i<=l.l1.length}) (fun i=>⟨[(1,.int 1),(2,.int low),(3,.int high),(4,.c (.ptr 0 0 0)),(8,.c (.ptr 1 0 0)),(11,.c (.own 5)),(12,.c (.own 6)),(23,.c (.own 3)),(24,.int l.l1.length),(25,.int i.1)],[(0,.vars [.own 2,.own 3,.own 4]),(1,.vars [.d .nilsl,.d .nilsl,.d .nilsl]),(2,.data .int l.l0),(3,.data .int l.l1),(4,.data .int l.l2),(5,.data .int (zcG l.l1 low high i.1)),(6,.data .int (zbu l.l1 low high i.1))],32⟩) (fun i=>l.l1.length-i.1) ⟨0,Nat.zero_le _⟩ ?_ ?_⟩
  ·exact⟨[(32,0),(64,1),(288,2),(289,3),(290,4)],.cons _ _ _ .same (.cons _ _ _ .same (.cons _ _ _ .same (.cons _ _ _ (.c _ _ (.ptr _ _ _ _ rfl)) (.cons _ _ _ (.c _ _ (.ptr _ _ _ _ rfl)) (.cons _ _ _ (.c _ _ (.nilown 5 .int rfl rfl)) (.cons _ _ _ (.c _ _ (.nilown 6 .int rfl rfl)) (.cons _ _ _ (.c _ _ (.own _ _ rfl)) (.cons _ _ _ .same (.cons _ _ _ .same .nil))))))))),.old 0 32 _ _ _ rfl rfl (.vars _ _ (.cons _ _ _ _ (.own _ _ rfl) (.cons _ _ _ _ (.own _ _ rfl) (.cons _ _ _ _ (.own _ _ rfl) .nil)))) (.old 1 64 _ _ _ rfl rfl (.vars _ _ (zb rfl)) (.old 2 288 _ _ _ rfl rfl (.data_eq rfl) (.old 3 289 _ _ _ rfl rfl (.data_eq rfl) (.old 4 290 _ _ _ rfl rfl (.data_eq rfl) (.new 5 .int _ rfl (.new 6 .int _ rfl .nil)))))),rfl⟩
  ·rintro⟨i,hi⟩
   have ho:=zjK l.l1 low high i
   have hs:=zis l.l1 low high i
   show ABr (decide ((i:Int)<(l.l1.length:Int))) _ _
   refine⟨fun h2=>?_,fun h2=>?_⟩
   ·have hlt:i<l.l1.length:=by simpa using h2
    have e1:=zin l.l1 low high i hlt
    have e2:=zgB l.l1 low high i hlt
    show AOb ((0:Int)<=(i:Int)/\(i:Int)<(l.l1.length:Int)) _
    refine⟨by omega,?_⟩
    show AOb ((i:Int).toNat<l.l1.length) _
    refine⟨by omega,?_⟩
    show ABr (cond (decide (at0 l.l1 i>=low)) (decide (at0 l.l1 i<high)) false) _ _
    refine⟨fun h3=>?_,fun h3=>?_⟩
    ·have hp:inP low high (at0 l.l1 i)=true:=by unfold inP;simpa using h3
     rw[if_pos hp]at e1 e2
     show AOb ((zcG l.l1 low high i).length+1<=zk) _
     refine⟨by unfold zk;omega,?_⟩
     show ARound ..
     refine⟨⟨i+1,hlt⟩,Nat.sub_lt_sub_left hlt (Nat.lt_succ_self i),[(_,5),(0,0),(1,1),(2,2),(3,3),(4,4),(6,6)],.cons _ _ _ .same (.cons _ _ _ .same (.cons _ _ _ .same (.cons _ _ _ (.c _ _ (.ptr _ _ _ _ rfl)) (.cons _ _ _ (.c _ _ (.ptr _ _ _ _ rfl)) (.cons _ _ _ (.c _ _ (.own1 _ _)) (.cons _ _ _ (.c _ _ (.own _ _ rfl)) (.cons _ _ _ (.c _ _ (.own _ _ rfl)) (.cons _ _ _ .same (.cons _ _ _ (.int_eq (zad (i:=i) (by unfold zE;omega))) .nil))))))))),.old 0 0 _ _ _ rfl rfl (.vars _ _ (.cons _ _ _ _ (.own _ _ rfl) (.cons _ _ _ _ (.own _ _ rfl) (.cons _ _ _ _ (.own _ _ rfl) .nil)))) (.old 1 1 _ _ _ rfl rfl (.vars _ _ (zb rfl)) (.old 2 2 _ _ _ rfl rfl (.data_eq rfl) (.old 3 3 _ _ _ rfl rfl (.data_eq rfl) (.old 4 4 _ _ _ rfl rfl (.data_eq rfl) (.old 5 _ _ _ _ rfl rfl (.data_eq ?_) (.old 6 6 _ _ _ rfl rfl (.data_eq ?_) .nil)))))),rfl⟩
     ·exact e1.symm
     ·exact e2.symm
    ·have hp:¬inP low high (at0 l.l1 i)=true:=by unfold inP;simpa using h3
     rw[if_neg hp]at e1 e2
     show AOb ((zbu l.l1 low high i).length+1<=zk) _
     refine⟨by unfold zk;omega,?_⟩
     show ARound ..
     refine⟨⟨i+1,hlt⟩,Nat.sub_lt_sub_left hlt (Nat.lt_succ_self i),[(_,6),(0,0),(1,1),(2,2),(3,3),(4,4),(5,5)],.cons _ _ _ .same (.cons _ _ _ .same (.cons _ _ _ .same (.cons _ _ _ (.c _ _ (.ptr _ _ _ _ rfl)) (.cons _ _ _ (.c _ _ (.ptr _ _ _ _ rfl)) (.cons _ _ _ (.c _ _ (.own _ _ rfl)) (.cons _ _ _ (.c _ _ (.own1 _ _)) (.cons _ _ _ (.c _ _ (.own _ _ rfl)) (.cons _ _ _ .same (.cons _ _ _ (.int_eq (zad (i:=i) (by unfold zE;omega))) .nil))))))))),.old 0 0 _ _ _ rfl rfl (.vars _ _ (.cons _ _ _ _ (.own _ _ rfl) (.cons _ _ _ _ (.own _ _ rfl) (.cons _ _ _ _ (.own _ _ rfl) .nil)))) (.old 1 1 _ _ _ rfl rfl (.vars _ _ (zb rfl)) (.old 2 2 _ _ _ rfl rfl (.data_eq rfl) (.old 3 3 _ _ _ rfl rfl (.data_eq rfl) (.old 4 4 _ _ _ rfl rfl (.data_eq rfl) (.old 5 5 _ _ _ rfl rfl (.data_eq ?_) (.old 6 _ _ _ _ rfl rfl (.data_eq ?_) .nil)))))),rfl⟩
     ·exact e1.symm
     ·exact e2.symm
   ·have hge:i=l.l1.length:=by simp at h2;omega
    show AOb ((0:Int)<=1/\(1:Int)<3) _
    refine⟨by decide,?_⟩
    show ARet ..
    refine⟨[],[],[(l.set_ 1 (zbu (l.at_ 1) low high (l.at_ 1).length)).tv,.c (.d (.sl .int (zcG (l.at_ 1) low high (l.at_ 1).length))),.int 0],.cons _ _ _ _ (.agg _ _ (.cons _ _ _ _ (.frz _ _ rfl) (.cons _ _ _ _ (.frz_eq rfl ?_) (.cons _ _ _ _ (.frz _ _ rfl) .nil)))) (.cons _ _ _ _ (.frz rfl ?_) (.cons _ _ _ _ .same .nil)),.nil,rfl,rfl,rfl⟩
    ·show zbu l.l1 low high i=_
     rw[hge];rfl
    ·show zcG l.l1 low high i=_
     rw[hge];rfl
 ·have hm:l.l2.length<=68719476736:=hok.2.2
  show ACall ..
  refine za (zct 2) rfl ?_
  show ABr ..
  refine⟨fun hb=>absurd hb (by decide),fun _=>?_⟩
  show ACall ..
  refine .mk _ (zaG l hok) ?_
  rintro H r ⟨rfl,rfl⟩ _ _
  refine⟨.inl rfl,?_⟩
  show AOb ((0:Int)<=2/\(2:Int)<3) _
  refine⟨by decide,?_⟩
  show ∃n,_
  refine⟨0,ALoop.inv (ι:={i:Nat // i<=l.l2.length}) (fun i=>⟨[(1,.int 2),(2,.int low),(3,.int high),(4,.c (.ptr 0 0 0)),(8,.c (.ptr 1 0 0)),(11,.c (.own 5)),(12,.c (.own 6)),(23,.c (.own 4)),(24,.int l.l2.length),(25,.int i.1)],[(0,.vars [.own 2,.own 3,.own 4]),(1,.vars [.d .nilsl,.d .nilsl,.d .nilsl]),(2,.data .int l.l0),(3,.data .int l.l1),(4,.data .int l.l2),(5,.data .int (zcG l.l2 low high i.1)),(6,.data .int (zbu l.l2 low high i.1))],32⟩) (fun i=>l.l2.length-i.1) ⟨0,Nat.zero_le _⟩ ?_ ?_⟩
  ·exact⟨[(32,0),(64,1),(288,2),(289,3),(290,4)],.cons _ _ _ .same (.cons _ _ _ .same (.cons _ _ _ .same (.cons _ _ _ (.c _ _ (.ptr _ _ _ _ rfl)) (.cons _ _ _ (.c _ _ (.ptr _ _ _ _ rfl)) (.cons _ _ _ (.c _ _ (.nilown 5 .int rfl rfl)) (.cons _ _ _ (.c _ _ (.nilown 6 .int rfl rfl)) (.cons _ _ _ (.c _ _ (.own _ _ rfl)) (.cons _ _ _ .same (.cons _ _ _ .same .nil))))))))),.old 0 32 _ _ _ rfl rfl (.vars _ _ (.cons _ _ _ _ (.own _ _ rfl) (.cons _ _ _ _ (.own _ _ rfl) (.cons _ _ _ _ (.own _ _ rfl) .nil)))) (.old 1 64 _ _ _ rfl rfl (.vars _ _ (zb rfl)) (.old 2 288 _ _ _ rfl rfl (.data_eq rfl) (.old 3 289 _ _ _ rfl rfl (.data_eq rfl) (.old 4 290 _ _ _ rfl rfl (.data_eq rfl) (.new 5 .int _ rfl (.new 6 .int _ rfl .nil)))))),rfl⟩
  ·rintro⟨i,hi⟩
   have ho:=zjK l.l2 low high i
   have hs:=zis l.l2 low high i
   show ABr (decide ((i:Int)<(l.l2.length:Int))) _ _
   refine⟨fun h2=>?_,fun h2=>?_⟩
   ·have hlt:i<l.l2.length:=by simpa using h2
    have e1:=zin l.l2 low high i hlt
    have e2:=zgB l.l2 low high i hlt
    show AOb ((0:Int)<=(i:Int)/\(i:Int)<(l.l2.length:Int)) _
    refine⟨by omega,?_⟩
    show AOb ((i:Int).toNat<l.l2.length) _
    refine⟨by omega,?_⟩
    show ABr (cond (decide (at0 l.l2 i>=low)) (decide (at0 l.l2 i<high)) false) _ _
    refine⟨fun h3=>?_,fun h3=>?_⟩
    ·have hp:inP low high (at0 l.l2 i)=true:=by unfold inP;simpa using h3
     rw[if_pos hp]at e1 e2
     show AOb ((zcG l.l2 low high i).length+1<=zk) _
     refine⟨by unfold zk;omega,?_⟩
     show ARound ..
     refine⟨⟨i+1,hlt⟩,Nat.sub_lt_sub_left hlt (Nat.lt_succ_self i),[(_,5),(0,0),(1,1),(2,2),(3,3),(4,4),(6,6)],.cons _ _ _ .same (.cons _ _ _ .same (.cons _ _ _ .same (.cons _ _ _ (.c _ _ (.ptr _ _ _ _ rfl)) (.cons _ _ _ (.c _ _ (.ptr _ _ _ _ rfl)) (.cons _ _ _ (.c _ _ (.own1 _ _)) (.cons _ _ _ (.c _ _ (.own _ _ rfl)) (.cons _ _ _ (.c _ _ (.own _ _ rfl)) (.cons _ _ _ .same (.cons _ _ _ (.int_eq (zad (i:=i) (by unfold zE;omega))) .nil))))))))),.old 0 0 _ _ _ rfl rfl (.vars _ _ (.cons _ _ _ _ (.own _ _ rfl) (.cons _ _ _ _ (.own _ _ rfl) (.cons _ _ _ _ (.own _ _ rfl) .nil)))) (.old 1 1 _ _ _ rfl rfl (.vars _ _ (zb rfl)) (.old 2 2 _ _ _ rfl rfl (.data_eq rfl) (.old 3 3 _ _ _ rfl rfl (.data_eq rfl) (.old 4 4 _ _ _ rfl rfl (.data_eq rfl) (.old 5 _ _ _ _ rfl rfl (.data_eq ?_) (.old 6 6 _ _ _ rfl rfl (.data_eq ?_) .nil)))))),rfl⟩
     ·exact e1.symm
     ·exact e2.symm
    ·have hp:¬inP low high (at0 l.l2 i)=true:=by unfold inP;simpa using h3
     rw[if_neg hp]at e1 e2
     show AOb ((zbu l.l2 low high i).length+1<=zk) _
     refine⟨by unfold zk;omega,?_⟩
     show ARound ..
     refine⟨⟨i+1,hlt⟩,Nat.sub_lt_sub_left hlt (Nat.lt_succ_self i),[(_,6),(0,0),(1,1),(2,2),(3,3),(4,4),(5,5)],.cons _ _ _ .same (.cons _ _ _ .same (.cons _ _ _ .same (.cons _ _ _ (.c _ _ (.ptr _ _ _ _ rfl)) (.cons _ _ _ (.c _ _ (.ptr _ _ _ _ rfl)) (.cons _ _ _ (.c _ _ (.own _ _ rfl)) (.cons _ _ _ (.c _ _ (.own1 _ _)) (.cons _ _ _ (.c _ _ (.own _ _ rfl)) (.cons _ _ _ .same (.cons _ _ _ (.int_eq (zad (i:=i) (by unfold zE;omega))) .nil))))))))),.old 0 0 _ _ _ rfl rfl (.vars _ _ (.cons _ _ _ _ (.own _ _ rfl) (.cons _ _ _ _ (.own _ _ rfl) (.cons _ _ _ _ (.own _ _ rfl) .nil)))) (.old 1 1 _ _ _ rfl rfl (.vars _ _ (zb rfl)) (.old 2 2 _ _ _ rfl rfl (.data_eq rfl) (.old 3 3 _ _ _ rfl rfl (.data_eq rfl) (.old 4 4 _ _ _ rfl rfl (.data_eq rfl) (.old 5 5 _ _ _ rfl rfl (.data_eq ?_) (.old 6 _ _ _ _ rfl rfl (.data_eq ?_) .nil)))))),rfl⟩
     ·exact e1.symm
     ·exact e2.symm
   ·have hge:i=l.l2.length:=by simp at h2;omega
    show AOb ((0:Int)<=2/\(2:Int)<3) _
    refine⟨by decide,?_⟩
    show ARet ..
    refine⟨[],[],[(l.set_ 2 (zbu (l.at_ 2) low high (l.at_ 2).length)).tv,.c (.d (.sl .int (zcG (l.at_ 2) low high (l.at_ 2).length))),.int 0],.cons _ _ _ _ (.agg _ _ (.cons _ _ _ _ (.frz _ _ rfl) (.cons _ _ _ _ (.frz _ _ rfl) (.cons _ _ _ _ (.frz_eq rfl ?_) .nil)))) (.cons _ _ _ _ (.frz rfl ?_) (.cons _ _ _ _ .same .nil)),.nil,rfl,rfl,rfl⟩
    ·show zbu l.l2 low high i=_
     rw[hge];rfl
    ·show zcG l.l2 low high i=_
     rw[hge];rfl
end Go.Abs
namespace Go.Abs
def zeA (a:Int) (x:Int×Int):Bool:=decide (x.1<=a/\a<x.1+x.2)
def cnt (L:List (Int×Int)) (a:Int):Nat:=(L.filter (zeA a)).length
theorem zmb (L M:List (Int×Int)) (a:Int):cnt (L++M) a=cnt L a+cnt M a:=by unfold cnt;rw[List.filter_append,List.length_append]
theorem zwN {L:List (Int×Int)} {a:Int} (h:∀x∈L,zeA a x=false):cnt L a=0:=by
 unfold cnt
 rw[List.filter_eq_nil_iff.2 fun x hx=>by rw[h x hx];simp]
 rfl
def zbs:Nat->List Page->List (Int×Int)
 |_,[]=>[]
 |i,p::r=>zD p (16*((i:Int)+1))++zbs (i+1) r
theorem zdz (l:List Page):∀(n i:Nat),l.length-i=n->zae l i=zbs i (l.drop i)
 |0,i,h=>by
  rw[zdq (by omega),List.drop_eq_nil_of_le (by omega)]
  rfl
 |n+1,i,h=>by
  have hi:i<l.length:=by omega
  rw[zcS hi,List.drop_eq_getElem_cons hi]
  show _=zD l[i] (16*((i:Int)+1))++zbs (i+1) (l.drop (i+1))
  rw[←zdz l n (i+1) (by omega),List.getD_eq_getElem?_getD,List.getElem?_eq_getElem hi]
  rfl
theorem zju:∀(ps:List Page) (i:Nat),(∀p∈ps,zbv p)->∀x∈zbs i ps,16*((i:Int)+1)<=x.1
 |[],_,_,x,h=>by cases h
 |p::r,i,hp,x,h=>by
  rcases List.mem_append.1 h with h|h
  ·unfold zD at h
   split at h
   ·rw[List.mem_singleton]at h
    subst h
    exact Int.le_refl _
   ·split at h
    ·rename_i h2 h1
     obtain⟨k,_,rfl⟩:=List.mem_map.1 h
     have:=zhV ((hp p (List.mem_cons_self ..)).1 h1)
     rcases this with⟨e,_⟩|⟨e,_⟩|⟨e,_⟩<;>· simp only[e];omega
    ·cases h
  ·have:=zju r (i+1) (fun q hq=>hp q (List.mem_cons_of_mem _ hq)) x h
   omega
theorem zuj {W N b a:Int} (hW:(W=2/\N=8)\/(W=4/\N=4)\/(W=8/\N=2)):cnt ((List.range N.toNat).map fun i:Nat=>(b+(i:Int)*W,W)) a=if b<=a/\a<b+16 then 1 else 0:=by
 have key:∀n:Nat,cnt ((List.range n).map fun i:Nat=>(b+(i:Int)*W,W)) a=if b<=a/\a<b+(n:Int)*W then 1 else 0:=by
  intro n
  induction n with
  |zero=>rw[if_neg (by omega)];rfl
  |succ n ih=>
   rw[List.range_succ,List.map_append,zmb,ih]
   have e:cnt [(b+(n:Int)*W,W)] a=if b+(n:Int)*W<=a/\a<b+(n:Int)*W+W then 1 else 0:=by
    unfold cnt
    rw[List.filter_cons,List.filter_nil]
    unfold zeA
    by_cases h:b+(n:Int)*W<=a/\a<b+(n:Int)*W+W<;>simp[h]
   show _+cnt [(b+(n:Int)*W,W)] a=_
   rw[e]
   have e2:((n+1:Nat):Int)*W=(n:Int)*W+W:=by rw[Int.natCast_add,Int.add_mul];simp
   rw[e2]
   have h0:0<=(n:Int)*W:=Int.mul_nonneg (by omega) (by omega)
   have hWp:0<W:=by omega
   generalize (n:Int)*W=m at *
   split<;>split<;>split<;>omega
 rw[key]
 rcases hW with⟨rfl,rfl⟩|⟨rfl,rfl⟩|⟨rfl,rfl⟩<;>rfl
theorem zyO {p:Page} {b a:Int} (hp:zbv p) (hf:zag p=true):cnt (zD p b) a=if p.kind=2 then (if b<=a/\a<b+p.arg*16 then 1 else 0) else if p.kind=1 then (if b<=a/\a<b+16 then 1 else 0) else 0:=by
 unfold zD
 by_cases h2:p.kind=2
 ·rw[if_pos h2,if_pos h2]
  unfold cnt
  rw[List.filter_cons,List.filter_nil]
  unfold zeA
  by_cases h:b<=a/\a<b+p.arg*16<;>simp[h]
 ·rw[if_neg h2,if_neg h2]
  by_cases h1:p.kind=1
  ·rw[if_pos h1,if_pos h1]
   exact zuj (zhV (hp.1 h1))
  ·rw[if_neg h1,if_neg h1]
   rfl
def znh (i:Nat) (ps:List Page) (a:Int):Nat:=if (ps.getD (a / 16-1-(i:Int)).toNat default).kind=0 then 1 else 0
theorem zzb:∀(ps:List Page) (i:Nat) (r:Int),pgo r ps=true->0<=r->(∀p∈ps,zbv p)->∀a,16*((i:Int)+1)<=a->a<16*((i:Int)+1+(ps.length:Int)) ->
  cnt (zbs i ps) a+znh i ps a+(if a<16*((i:Int)+1+r) then 1 else 0)=1
 |[],i,r,_,_,_,a,h1,h2=>by simp at h2;omega
 |p::ps,i,r,h,hr,hp,a,h1,h2=>by
  have hlow:=zju ps (i+1) (fun q hq=>hp q (List.mem_cons_of_mem _ hq))
  have hpp:=hp p (List.mem_cons_self ..)
  have hl:((p::ps).length:Int)=(ps.length:Int)+1:=by simp
  rw[hl]at h2
  have ih:=fun r' (h' : pgo r' ps=true) (hr' : 0<=r')=>zzb ps (i+1) r' h' hr' (fun q hq=>hp q (List.mem_cons_of_mem _ hq)) a
  show cnt (zD p (16*((i:Int)+1))++zbs (i+1) ps) a+_+_=1
  rw[zmb]
  have hstep:16*((i:Int)+2)<=a->znh i (p::ps) a=znh (i+1) ps a:=by
   intro ha
   unfold znh
   have e:(a / 16-1-(i:Int)).toNat=(a / 16-1-((i+1:Nat):Int)).toNat+1:=by omega
   rw[e]
   rfl
  have hhere:a<16*((i:Int)+2)->znh i (p::ps) a=(if p.kind=0 then 1 else 0)/\cnt (zbs (i+1) ps) a=0:=by
   intro ha
   constructor
   ·unfold znh
    have e:(a / 16-1-(i:Int)).toNat=0:=by omega
    rw[e]
    rfl
   ·refine zwN fun x hx=>?_
    have:=hlow x hx
    unfold zeA
    apply decide_eq_false
    omega
  unfold pgo at h
  by_cases h3:p.kind=3
  ·rw[decide_eq_true h3]at h
   simp only[cond_true,Bool.and_eq_true,Bool.not_eq_true',decide_eq_false_iff_not]at h
   have hc:cnt (zD p (16*((i:Int)+1))) a=0:=by
    unfold zD
    rw[if_neg (by omega),if_neg (by omega)]
    rfl
   rw[hc]
   by_cases ha:a<16*((i:Int)+2)
   ·obtain⟨e1,e2⟩:=hhere ha
    rw[e1,e2,if_neg (by omega),if_pos (by omega)]
   ·have:=ih (r-1) h.2 (by omega) (by omega) (by omega)
    rw[hstep (by omega)]
    have e:(16*(((i+1:Nat):Int)+1+(r-1)))=16*((i:Int)+1+r):=by omega
    rw[e]at this
    omega
  ·rw[decide_eq_false h3]at h
   simp only[cond_false,Bool.and_eq_true,Bool.not_eq_true',decide_eq_false_iff_not]at h
   obtain⟨⟨hf,h0⟩,h⟩:=h
   have hr0:r=0:=by omega
   subst hr0
   rw[zyO hpp hf]
   have hk:=of_decide_eq_true hf
   by_cases hk2:p.kind=2
   ·rw[if_pos hk2]at h ⊢
    have hpa:=hpp.2 hk2
    by_cases ha:a<16*((i:Int)+2)
    ·obtain⟨e1,e2⟩:=hhere ha
     rw[e1,e2,if_pos (by omega),if_neg (by omega),if_neg (by omega)]
    ·have:=ih (p.arg-1) h (by omega) (by omega) (by omega)
     rw[hstep (by omega)]
     have e:(16*(((i+1:Nat):Int)+1+(p.arg-1)))=16*((i:Int)+1+p.arg):=by omega
     rw[e]at this
     by_cases hb:a<16*((i:Int)+1+p.arg)
     ·rw[if_pos hb]at this
      rw[if_pos (by omega),if_neg (by omega)]
      omega
     ·rw[if_neg hb]at this
      rw[if_neg (by omega),if_neg (by omega)]
      omega
   ·rw[if_neg hk2]at h ⊢
    by_cases ha:a<16*((i:Int)+2)
    ·obtain⟨e1,e2⟩:=hhere ha
     rw[e1,e2]
     by_cases hk1:p.kind=1
     ·rw[if_pos hk1,if_pos (by omega),if_neg (by omega),if_neg (by omega)]
     ·rw[if_neg hk1,if_pos (by omega),if_neg (by omega)]
    ·have:=ih 0 h (by omega) (by omega) (by omega)
     rw[hstep (by omega)]
     have e:(16*(((i+1:Nat):Int)+1+0))=16*((i:Int)+2):=by omega
     rw[e,if_neg (by omega)]at this
     rw[if_neg (show ¬a<16*((i:Int)+1+0) by omega)]
     by_cases hk1:p.kind=1
     ·rw[if_pos hk1,if_neg (by omega)];omega
     ·rw[if_neg hk1];omega
def zbk (l:List Page) (i:Nat) (o:List Page):List Page:=zK l i (o.take (l.length-i))
def sizeP (p:Page):Nat:=if p.kind=2 then p.arg.toNat else 1
def zam (l:List Page) (i:Nat):List Page:=zbk l i (List.replicate (sizeP (l.getD i default)) ⟨0,0⟩)
theorem zje {l o:List Page} {i:Nat} (h:i+o.length<=l.length):zbk l i o=l.take i++o++l.drop (i+o.length):=by
 unfold zbk zK
 rw[List.take_of_length_le (l:=o) (by omega)]
theorem znG:∀(n:Nat) (t:List Page),pgo (n:Int) t=true->n<=t.length/\pgo 0 (t.drop n)=true/\∀j,j<n->t.getD j default=⟨3,0⟩
 |0,t,h=>⟨Nat.zero_le _,h,fun j hj=>absurd hj (by omega)⟩
 |n+1,[],h=>by rw[zua (by omega)]at h;cases h
 |n+1,q::t,h=>by
  rw[zmc (by omega),Bool.and_eq_true]at h
  obtain⟨h1,h2⟩:=h
  rw[show((n+1:Nat):Int)-1=(n:Int) by omega]at h2
  obtain⟨k1,k2,k3⟩:=znG n t h2
  refine⟨by simp;omega,k2,fun j hj=>?_⟩
  cases j with
  |zero=>exact of_decide_eq_true h1
  |succ j=>exact k3 j (by omega)
theorem zj8 (t:List Page):∀n:Nat,pgo 0 (List.replicate n ⟨0,0⟩++t)=pgo 0 t
 |0=>rfl
 |n+1=>by
  rw[List.replicate_succ,List.cons_append]
  exact zj8 t n
theorem zmO:∀(l:List Page) (i:Nat) (r:Int),pgo r l=true->0<=r->i<l.length->(l.getD i default).kind=1\/(l.getD i default).kind=2 ->
  i+sizeP (l.getD i default)<=l.length/\1<=sizeP (l.getD i default)/\pgo r (l.take i++List.replicate (sizeP (l.getD i default)) ⟨0,0⟩++l.drop (i+sizeP (l.getD i default)))=true/\∀j,i<j->j<i+sizeP (l.getD i default)->l.getD j default=⟨3,0⟩
 |[],i,r,_,_,h,_=>absurd h (by simp)
 |p::t,0,r,h,hr,hi,hk=>by
  have hk:p.kind=1\/p.kind=2:=hk
  unfold pgo at h
  rw[decide_eq_false (show ¬p.kind=3 by omega)]at h
  simp only[cond_false,Bool.and_eq_true]at h
  obtain⟨⟨h1,h2⟩,h3⟩:=h
  have hr0:r=0:=by simp at h2;omega
  subst hr0
  have hf:=of_decide_eq_true h1
  show 0+sizeP p<=(p::t).length/\1<=sizeP p/\pgo 0 (List.take 0 (p::t)++List.replicate (sizeP p) ⟨0,0⟩++(p::t).drop (0+sizeP p))=true/\∀j,0<j->j<0+sizeP p->(p::t).getD j default=⟨3,0⟩
  rcases hk with hk|hk
  ·have hs:sizeP p=1:=by unfold sizeP;rw[if_neg (by omega)]
   rw[if_neg (by omega)]at h3
   rw[hs]
   exact⟨by simp,Nat.le_refl _,(zj8 t 1).trans h3,fun j h1 h2=>absurd h2 (by omega)⟩
  ·rw[if_pos hk]at h3
   have hs:sizeP p=p.arg.toNat:=by unfold sizeP;rw[if_pos hk]
   have ha:1<=p.arg:=by omega
   obtain⟨n,hn⟩:∃n:Nat,p.arg.toNat=n+1:=⟨p.arg.toNat-1,by omega⟩
   rw[show p.arg-1=(n:Int) by omega]at h3
   obtain⟨k1,k2,k3⟩:=znG n t h3
   rw[hs,hn]
   refine⟨by simp;omega,by omega,?_,fun j h1 h2=>?_⟩
   ·rw[List.take_zero,List.nil_append,zj8,Nat.zero_add,List.drop_succ_cons];exact k2
   ·obtain⟨m,rfl⟩:∃m,j=m+1:=⟨j-1,by omega⟩
    exact k3 m (by omega)
 |p::t,i+1,r,h,hr,hi,hk=>by
  have hk:(t.getD i default).kind=1\/(t.getD i default).kind=2:=hk
  have hi:i<t.length:=by simpa using hi
  have step:∀r',pgo r' t=true->0<=r'->_:=fun r' h' hr'=>zmO t i r' h' hr' hi hk
  show i+1+sizeP (t.getD i default)<=(p::t).length/\1<=sizeP (t.getD i default)/\pgo r (List.take (i+1) (p::t)++List.replicate (sizeP (t.getD i default)) ⟨0,0⟩++(p::t).drop (i+1+sizeP (t.getD i default)))=true/\∀j,i+1<j->j<i+1+sizeP (t.getD i default)->(p::t).getD j default=⟨3,0⟩
  have e:i+1+sizeP (t.getD i default)=(i+sizeP (t.getD i default))+1:=by omega
  rw[e,List.take_succ_cons,List.drop_succ_cons,List.cons_append,List.cons_append]
  unfold pgo at h ⊢
  cases h3:decide (p.kind=3) with
  |true=>
   rw[h3]at h
   simp only[cond_true,Bool.and_eq_true]at h ⊢
   obtain⟨⟨h1,h2⟩,h4⟩:=h
   obtain⟨s1,s2,s3,s4⟩:=step _ h4 (by simp at h1;omega)
   refine⟨Nat.succ_le_succ s1,s2,⟨⟨h1,h2⟩,s3⟩,fun j hj1 hj2=>?_⟩
   obtain⟨m,rfl⟩:∃m,j=m+1:=⟨j-1,by omega⟩
   exact s4 m (Nat.lt_of_succ_lt_succ hj1) (Nat.lt_of_succ_lt_succ hj2)
  |false=>
   rw[h3]at h
   simp only[cond_false,Bool.and_eq_true]at h ⊢
   obtain⟨⟨h1,h2⟩,h4⟩:=h
   have hf:=of_decide_eq_true h1
   obtain⟨s1,s2,s3,s4⟩:=step _ h4 (by split<;>omega)
   refine⟨Nat.succ_le_succ s1,s2,⟨⟨h1,h2⟩,s3⟩,fun j hj1 hj2=>?_⟩
   obtain⟨m,rfl⟩:∃m,j=m+1:=⟨j-1,by omega⟩
   exact s4 m (Nat.lt_of_succ_lt_succ hj1) (Nat.lt_of_succ_lt_succ hj2)
structure Drops (l:List Page) (i:Nat):Prop where
 may:zar l=true
 lt:i<l.length
 kind:(l.getD i default).kind=1\/(l.getD i default).kind=2
namespace Drops
variable {l:List Page} {i:Nat}
theorem eq (h:Drops l i):zam l i=l.take i++List.replicate (sizeP (l.getD i default)) ⟨0,0⟩++l.drop (i+sizeP (l.getD i default)):=by
 have hm:=h.may;unfold zar at hm;rw[Bool.and_eq_true]at hm
 have:=(zmO l i 0 hm.1 (Int.le_refl _) h.lt h.kind).1
 unfold zam
 rw[zje (by simpa using this),List.length_replicate]
theorem all (h:Drops l i):i+sizeP (l.getD i default)<=l.length/\1<=sizeP (l.getD i default)/\pgo 0 (zam l i)=true/\∀j,i<j->j<i+sizeP (l.getD i default)->l.getD j default=⟨3,0⟩:=by
 have hm:=h.may;unfold zar at hm;rw[Bool.and_eq_true]at hm
 rw[h.eq]
 exact zmO l i 0 hm.1 (Int.le_refl _) h.lt h.kind
theorem len (h:Drops l i):(zam l i).length=l.length:=by
 have h1:=h.all.1
 rw[h.eq]
 generalize sizeP (l.getD i default)=n at h1
 simp;omega
theorem may' (h:Drops l i):zar (zam l i)=true:=by
 have hm:=h.may;unfold zar at hm ⊢;rw[Bool.and_eq_true]at hm ⊢
 rw[h.len]
 exact⟨h.all.2.2.1,hm.2⟩
theorem get (h:Drops l i) (j:Nat):(zam l i).getD j default=if i<=j/\j<i+sizeP (l.getD i default) then ⟨0,0⟩ else l.getD j default:=by
 have h1:=h.all.1
 have hl:=h.lt
 rw[h.eq]
 generalize sizeP (l.getD i default)=n at h1
 simp only[List.getD_eq_getElem?_getD]
 by_cases c1:j<i
 ·rw[if_neg (by omega),List.append_assoc,List.getElem?_append_left (by simp;omega),List.getElem?_take_of_lt c1]
 ·rw[List.append_assoc,List.getElem?_append_right (by simp;omega)]
  have e1:(l.take i).length=i:=by simp;omega
  rw[e1]
  by_cases c2:j<i+n
  ·rw[if_pos ⟨by omega,c2⟩,List.getElem?_append_left (by simp;omega),List.getElem?_replicate,if_pos (by omega)];rfl
  ·rw[if_neg (by omega),List.getElem?_append_right (by simp;omega),List.getElem?_drop,List.length_replicate]
   congr 2;omega
theorem on (h:Drops l i) {j:Nat} (hj:j≠i) (x:Int):zD ((zam l i).getD j default) x=zD (l.getD j default) x:=by
 rw[h.get]
 split
 ·rename_i c
  rw[h.all.2.2.2 j (by omega) c.2];rfl
 ·rfl
theorem at_ (h:Drops l i) (x:Int):zD ((zam l i).getD i default) x=[]:=by
 rw[h.get,if_pos ⟨Nat.le_refl _,by have:=h.all.2.1;omega⟩];rfl
theorem keep (h:Drops l i) {j:Nat} (hj:j≠i) (hk:(l.getD j default).kind≠3):(zam l i).getD j default=l.getD j default:=by
 rw[h.get]
 split
 ·rename_i c
  rw[h.all.2.2.2 j (by omega) c.2]at hk;exact absurd rfl hk
 ·rfl
theorem cells (h:Drops l i):cellsAll (zam l i)=(cellsAll l).filter fun x=>decide (x.1 / 16-1≠(i:Int)):=by
 have hp:=(zab h.may).1
 unfold cellsAll
 rw[if_pos h.may',if_pos h.may]
 unfold zae
 rw[h.len,List.drop_zero,List.filter_flatMap]
 rw[List.flatMap_def,List.flatMap_def]
 congr 1
 apply List.map_congr_left
 intro j hj
 have hj:j<l.length:=by simpa using hj
 by_cases e:j=i
 ·subst e
  rw[h.at_]
  symm
  rw[List.filter_eq_nil_iff]
  intro x hx
  have:=(zdd hj (hp j hj) hx).div
  simp[this]
 ·rw[h.on e]
  symm
  rw[List.filter_eq_self]
  intro x hx
  have:=(zdd hj (hp j hj) hx).div
  exact decide_eq_true (by omega)
theorem starts (h:Drops l i):cellStarts (zam l i)=(cellStarts l).filter fun a=>decide (a / 16-1≠(i:Int)):=by
 unfold cellStarts
 rw[h.cells,List.filter_map]
 rfl
theorem room (h:Drops l i) (a:Int):ze (zam l i) a=if a / 16-1=(i:Int) then 0 else ze l a:=by
 by_cases e:a / 16-1=(i:Int)
 ·rw[if_pos e]
  apply Classical.byContradiction
  intro hr
  have:=zw.2 hr
  rw[h.starts,List.mem_filter]at this
  exact of_decide_eq_true this.2 e
 ·rw[if_neg e]
  by_cases hr:ze l a=0
  ·rw[hr]
   apply Classical.byContradiction
   intro hr'
   have:=zw.2 hr'
   rw[h.starts,List.mem_filter]at this
   exact zw.1 this.1 hr
  ·have h1:=zz hr
   have h2:(a,ze l a)∈cellsAll (zam l i):=by
    rw[h.cells,List.mem_filter]
    exact⟨h1,decide_eq_true e⟩
   exact zbA h2
end Drops
end Go.Abs
