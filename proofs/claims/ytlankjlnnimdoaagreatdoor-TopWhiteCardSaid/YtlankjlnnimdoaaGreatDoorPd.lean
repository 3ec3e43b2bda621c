/- Walks and plain laws: WHeap4, WCards, WShade, WPart, WBegins. -/
import Derived.Test.YtlankjlnnimdoaaGreatDoorPb
import Derived.Test.YtlankjlnnimdoaaGreatDoorPc
import Derived.Test.YtlankjlnnimdoaaGreatDoorPa
set_option linter.all false
namespace Go.Abs
open Go.Proofs Go.Proofs.YtlankjlnnimdoaaGreatDoor
set_option maxRecDepth 8000
def zD (h:Hp):Bool:=zba h.w&&(zao h.pages&&decide (h.w.length=16*h.pages.length/\h.cards.length=2*h.pages.length))
def zf (h:Hp) (a:Int):Int:=at0 h.w (a-16).toNat
def zQ (h:Hp) (a:Int):Page:=h.pages.getD (a / 16-1).toNat default
def zhq (p:Page) (n:Int):Bool:=bif decide (p.kind=2) then decide (zdI n=0/\zaD n=p.arg) else decide (zap n=0/\zC n=p.arg)
def zL (h:Hp) (c a:Int):Bool:=decide (0<ze h.pages a/\zQ h a=⟨1,c⟩/\zf h a=0)
def zS (h:Hp) (l:Lists):Bool:=l.l0.all (zL h 0)&&(l.l1.all (zL h 1)&&l.l2.all (zL h 2))
def zah (h:Hp) (a:Int):Bool:=zfN (zf h a)&&(bif (unp (zf h a)).used then zhq (zQ h a) (unp (zf h a)).n else decide ((zQ h a).kind=1))
abbrev zec (h:Hp) (cs:List Lists):List Lists:=h.free::cs
def zw (h:Hp) (cs:List Lists):Bool:=zD h&&((h.free::cs).all (zS h)&&((cellStarts h.pages).all (zah h)&&decide (flats (h.free::cs)).Nodup))
def zt (h:Hp) (cs:List Lists):Bool:=zw h cs&&(cellStarts h.pages).all fun a=>zf h a != 0 || (flats (h.free::cs)).contains a
def adr (h:Hp) (a:Int):Prop:=16<=a/\a<16*((h.pages.length:Int)+1)
theorem zm {h:Hp} (hs:zD h=true):zba h.w=true/\zao h.pages=true/\h.w.length=16*h.pages.length/\h.cards.length=2*h.pages.length/\1<=h.pages.length/\h.pages.length<=64:=by
 unfold zD at hs
 simp only[Bool.and_eq_true,decide_eq_true_eq]at hs
 have:=(zag hs.2.1).2
 exact⟨hs.1,hs.2.1,hs.2.2.1,hs.2.2.2,this.1,this.2⟩
theorem zak {h:Hp} {a:Int} (hr:ze h.pages a≠0):adr h a:=by
 obtain⟨_,i,hi⟩:=zac (zq hr)
 have h1:=hi.lo
 have h2:=hi.hi
 have h3:=hi.lt
 simp only at h1 h2
 exact⟨by omega,by omega⟩
theorem wlen {l:List Int} (h:l.length<=zA):(l.length:Int)<140737488355329:=by unfold zA at h;omega
theorem ze0 (h:Hp) (a:Int) (hs:h.w.length=16*h.pages.length) (ha:adr h a):Spec X 30 [] [h.tv,.int a] (Ret [] (.int (zf h a))):=by
 refine zGO X_ok Tryz.f30 fun hb hH=>⟨rfl,?_⟩
 obtain⟨h1,h2⟩:=ha
 have hla:h.w.length<=zA:=((hb (h.tv) (by simp)) (.d (.sl .int h.w)) (by simp[Hp.enc])).1
 have hl:=wlen hla
 have ew:IntKind.i64.wrap (a-16)=a-16:=zu (by omega) (by omega)
 show AOb ((0:Int)<=IntKind.i64.wrap (a-16)/\IntKind.i64.wrap (a-16)<(h.w.length:Int)) _
 rw[ew]
 refine⟨by omega,?_⟩
 show ARet ..
 exact zg rfl ⟨rfl,rfl⟩
theorem zm8 (h:Hp) (a:Int) (hs:h.w.length=16*h.pages.length) (ha:adr h a):Spec X 56 [] [h.tv,.int a] (Ret [] (.dagg (EK.enc .page (zQ h a)))):=by
 refine zGO X_ok Tryz.f56 fun hb hH=>⟨rfl,?_⟩
 obtain⟨h1,h2⟩:=ha
 have hla:h.w.length<=zA:=((hb (h.tv) (by simp)) (.d (.sl .int h.w)) (by simp[Hp.enc])).1
 have hl:=wlen hla
 have e1:tdv a 16=a / 16:=zds (by omega) (by omega) (by omega)
 have ew:IntKind.i64.wrap (tdv a 16-1)=a / 16-1:=by rw[e1];exact zu (by omega) (by omega)
 show AOb ..
 refine⟨by decide,?_⟩
 show AOb ((0:Int)<=IntKind.i64.wrap (tdv a 16-1)/\IntKind.i64.wrap (tdv a 16-1)<(h.pages.length:Int)) _
 refine⟨by rw[ew];omega,?_⟩
 show ARet _ _ [.agg [.d (DV.int (h.pages.getD (IntKind.i64.wrap (tdv a 16-1)).toNat default).kind),.d (DV.int (h.pages.getD (IntKind.i64.wrap (tdv a 16-1)).toNat default).arg)]]
 rw[ew]
 exact zg rfl ⟨rfl,rfl⟩
theorem zdk {p q:Prop} [Decidable p] [Decidable q]:decide (p/\q)=(decide p&&decide q):=by simp
theorem zya (n:Nat) (h:n<=zA):tdv (n:Int) 8=((n / 8:Nat):Int):=zs3 n 8 h
theorem zoI (h:Hp):Spec X 54 [] [h.tv] (Ret [] (.bo (zD h))):=by
 refine zGO X_ok Tryz.f54 fun hb hH=>⟨rfl,?_⟩
 have hla:h.w.length<=zA:=((hb (h.tv) (by simp)) (.d (.sl .int h.w)) (by simp[Hp.enc])).1
 have hlp:h.pages.length<=zA:=((hb (h.tv) (by simp)) (.d (.sl .page h.pages)) (by simp[Hp.enc])).1
 have hlc:h.cards.length<=zA:=((hb (h.tv) (by simp)) (.d (.sl .bool h.cards)) (by simp[Hp.enc])).1
 have w1:=wlen hla
 have w2:IntKind.i64.wrap (16*(h.pages.length:Int))=16*(h.pages.length:Int):=zu (by omega) (by unfold zA at hlp;omega)
 have w3:=zya h.w.length hla
 show ACall ..
 refine za (zfc h.w) rfl ?_
 show AIf (zba h.w=true/\True) _ _
 refine⟨fun h1=>?_,fun h1=>?_⟩
 ·show ACall ..
  refine za (zcO h.pages) rfl ?_
  show AOb ..
  refine⟨by simp,?_⟩
  show ARet ..
  refine zo (x:=bif (bif zao h.pages then (h.w.length:Int)==IntKind.i64.wrap (16*(h.pages.length:Int)) else false) then (h.cards.length:Int)==tdv (h.w.length:Int) 8 else false) ?_ ⟨rfl,rfl⟩
  rw[w2,w3]
  unfold zD
  rw[h1.1]
  have hw:=of_decide_eq_true h1.1
  cases zao h.pages with
  |false=>rfl
  |true=>
   simp only[cond_true,Bool.true_and,zdk]
   by_cases e1:h.w.length=16*h.pages.length
   ·have e2:((h.w.length:Int)==16*(h.pages.length:Int))=true:=by rw[beq_iff_eq];omega
    rw[e2,decide_eq_true e1]
    by_cases e3:h.cards.length=2*h.pages.length
    ·rw[decide_eq_true e3];simp;omega
    ·rw[decide_eq_false e3];simp;omega
   ·have e2:((h.w.length:Int)==16*(h.pages.length:Int))=false:=by rw[beq_eq_false_iff_ne];omega
    rw[e2,decide_eq_false e1]
    rfl
 ·have h1:zba h.w=false:=Bool.eq_false_iff.2 fun h'=>h1 ⟨h',trivial⟩
  show AOb (zba h.w=false) _
  refine⟨h1,?_⟩
  show AOb ..
  refine⟨by simp,?_⟩
  show ARet ..
  refine zo (x:=false) ?_ ⟨rfl,rfl⟩
  unfold zD
  rw[h1]
  rfl
theorem zuC (p:Page) (n:Int) (hn:n<=9223372036854775807):Spec X 57 [] [.dagg (EK.enc .page p),.int n] (Ret [] (.bo (zhq p n))):=by
 refine zGO X_ok Tryz.f57 fun hb hH=>⟨rfl,?_⟩
 unfold zhq
 show ABr (decide (p.kind=2)) _ _
 refine⟨fun h=>?_,fun h=>?_⟩
 ·rw[h]
  show ACall ..
  refine za (znb n hn) rfl ?_
  show ARet ..
  refine zo (x:=bif decide (zdI n=0) then decide (zaD n=p.arg) else false) ?_ ⟨rfl,rfl⟩
  rw[cond_true,zdk]
  cases decide (zdI n=0)<;>rfl
 ·rw[h]
  show ACall ..
  refine za (ziJ n) rfl ?_
  show ARet ..
  refine zo (x:=bif decide (zap n=0) then decide (zC n=p.arg) else false) ?_ ⟨rfl,rfl⟩
  rw[cond_false,zdk]
  cases decide (zap n=0)<;>rfl
theorem zsK (p:Page) (k c:Int):(p.kind==k&&(p.arg==c&&true))=decide (p=⟨k,c⟩):=by
 obtain⟨a,b⟩:=p
 by_cases h1:a=k<;>by_cases h2:b=c<;>simp[h1,h2]
theorem zfs (h:Hp) (c a:Int) (hs:zD h=true):Spec X 102 [] (.int a::zcS [.rp h.enc,.rp [DV.int c]]) (Ret [] (.bo (zL h c a))):=by
 obtain⟨_,_,hsl,_⟩:=zm hs
 refine zGO X_ok Tryz.f102 fun hb hH=>⟨rfl,?_⟩
 show ADCall ..
 refine .mk _ _ (zfa h.pages a) rfl ?_
 unfold zL
 show ABr (decide (ze h.pages a>0)) _ _
 refine⟨fun h1=>?_,fun h1=>?_⟩
 ·have h1:0<ze h.pages a:=of_decide_eq_true h1
  have had:=zak (h:=h) (a:=a) (by omega)
  show ADCall ..
  refine .mk _ _ (zm8 h a hsl had) rfl ?_
  show ABr ((zQ h a).kind==1&&((zQ h a).arg==c&&true)) _ _
  rw[zsK]
  refine⟨fun h2=>?_,fun h2=>?_⟩
  ·show ADCall ..
   refine .mk _ _ (ze0 h a hsl had) rfl ?_
   show ARet ..
   refine zo (x:=zf h a==0) ?_ ⟨rfl,rfl⟩
   have h2:=of_decide_eq_true h2
   by_cases h3:zf h a=0<;>simp[h1,h2,h3]
  ·show ARet ..
   refine zo (x:=false) ?_ ⟨rfl,rfl⟩
   have h2:=of_decide_eq_false h2
   simp[h2]
 ·have h1:=of_decide_eq_false h1
  refine zNO (by decide) ?_
  show ARet ..
  refine zo (x:=false) ?_ ⟨rfl,rfl⟩
  have h2:¬0<ze h.pages a:=by omega
  simp[h2]
theorem zqq (g:Hp) (l:Lists) (hs:zD g=true):Spec X 58 [] [g.tv,l.tv] (Ret [] (.bo (zS g l))):=by
 refine zGO X_ok Tryz.f58 fun hb hH=>⟨rfl,?_⟩
 unfold zS
 show ∃n,_
 refine⟨4,?_⟩
 show ALoop ..
 refine .next ?_
 refine zYE (by decide) ?_
 show AOb ..
 refine⟨by decide,?_⟩
 show ACall ..
 refine za (zd7 l.l0 102 [.rp g.enc,.rp [DV.int 0]] (zL g 0) (fun x _=>zfs g 0 x hs)) rfl ?_
 show ABr (!l.l0.all (zL g 0)) _ _
 refine⟨fun h=>?_,fun h=>?_⟩
 ·have h0:l.l0.all (zL g 0)=false:=by simpa using h
  rw[h0]
  show ARet ..
  exact zg rfl ⟨rfl,rfl⟩
 have h0:l.l0.all (zL g 0)=true:=by simpa using h
 rw[h0]
 show ALoop ..
 refine .next ?_
 refine zYE (by decide) ?_
 show AOb ..
 refine⟨by decide,?_⟩
 show ACall ..
 refine za (zd7 l.l1 102 [.rp g.enc,.rp [DV.int 1]] (zL g 1) (fun x _=>zfs g 1 x hs)) rfl ?_
 show ABr (!l.l1.all (zL g 1)) _ _
 refine⟨fun h=>?_,fun h=>?_⟩
 ·have h1:l.l1.all (zL g 1)=false:=by simpa using h
  rw[h1]
  show ARet ..
  exact zg rfl ⟨rfl,rfl⟩
 have h1:l.l1.all (zL g 1)=true:=by simpa using h
 rw[h1]
 show ALoop ..
 refine .next ?_
 refine zYE (by decide) ?_
 show AOb ..
 refine⟨by decide,?_⟩
 show ACall ..
 refine za (zd7 l.l2 102 [.rp g.enc,.rp [DV.int 2]] (zL g 2) (fun x _=>zfs g 2 x hs)) rfl ?_
 show ABr (!l.l2.all (zL g 2)) _ _
 refine⟨fun h=>?_,fun h=>?_⟩
 ·have h2:l.l2.all (zL g 2)=false:=by simpa using h
  rw[h2]
  show ARet ..
  exact zg rfl ⟨rfl,rfl⟩
 have h2:l.l2.all (zL g 2)=true:=by simpa using h
 rw[h2]
 show ALoop ..
 refine .next ?_
 refine zNO (by decide) ?_
 show ARet ..
 exact zg rfl ⟨rfl,rfl⟩
theorem zyo (w:Int):(unp w).n<=63:=by
 unfold unp
 split
 ·rename_i h;exact(zjv h).1.2
 ·decide
theorem zq0 (h:Hp) (a:Int) (hs:zD h=true) (ha:adr h a):Spec X 55 [] (.int a::zcS [.rp h.enc]) (Ret [] (.bo (zah h a))):=by
 obtain⟨_,_,hsl,_⟩:=zm hs
 refine zGO X_ok Tryz.f55 fun hb hH=>⟨rfl,?_⟩
 show ACall ..
 refine za (ze0 h a hsl ha) rfl ?_
 show ACall ..
 refine za (ziP (zf h a)) rfl ?_
 show ACall ..
 refine za (zm8 h a hsl ha) rfl ?_
 have hn:=zyo (zf h a)
 unfold zah
 generalize hu:unp (zf h a)=u at hn
 show AIf (u.used=true/\(bif !u.used then (zQ h a).kind==1 else false)=false/\zfN (zf h a)=true/\True) _ _
 refine⟨fun h1=>?_,fun h1=>?_⟩
 ·show ACall ..
  refine za (zuC (zQ h a) u.n (by omega)) rfl ?_
  show ARet ..
  refine zo (x:=bif zfN (zf h a) then (bif (bif !u.used then (zQ h a).kind==1 else false) then true else zhq (zQ h a) u.n) else false) ?_ ⟨rfl,rfl⟩
  rw[h1.2.2.1,h1.1]
  rfl
 ·show AOb ..
  refine⟨by exact fun⟨g1,g2,_⟩=>Bool.eq_false_iff.2 fun g3=>h1 ⟨g3,g1,g2,trivial⟩,?_⟩
  show ARet ..
  refine zo (x:=bif zfN (zf h a) then (bif (bif !u.used then (zQ h a).kind==1 else false) then true else false) else false) ?_ ⟨rfl,rfl⟩
  cases hi:zfN (zf h a) with
  |false=>rfl
  |true=>
   cases hud:u.used with
   |true=>exact absurd ⟨hud,by rw[hud];rfl,hi,trivial⟩ h1
   |false=>
    simp only[cond_true,cond_false,Bool.true_and,Bool.not_false]
    by_cases hk:(zQ h a).kind=1<;>simp[hk]
theorem zdT {h:Hp} {a:Int} (ha:a∈cellStarts h.pages):adr h a:=zak (zn.1 ha)
theorem zeo (g:Hp) (cs:List Lists) (hm:(flats (zec g cs)).length<=zi) (hc:cs.length<zi):Spec X 26 [] [g.tv,.c (.d (.sl .lists cs))] (Ret [] (.bo (zw g cs))):=by
 refine zGO X_ok Tryz.f26 fun hb hH=>⟨rfl,?_⟩
 unfold zw
 show ACall ..
 refine za (zoI g) rfl ?_
 show ABr (!zD g) _ _
 refine⟨fun h=>?_,fun h=>?_⟩
 ·have hs:zD g=false:=by simpa using h
  rw[hs]
  show ARet ..
  exact zg rfl ⟨rfl,rfl⟩
 have hs:zD g=true:=by simpa using h
 rw[hs]
 show AOb (1+cs.length<=zi) _
 refine⟨by omega,?_⟩
 obtain⟨L,hL⟩:∃L:List Lists,L=g.free::cs:=⟨_,rfl⟩
 have hlen:L.length<=zi:=by rw[hL,List.length_cons];omega
 unfold zi at hlen
 show ∃n,_
 refine⟨0,ALoop.inv (ι:={i:Nat // i<=L.length/\L.all (zS g)=(L.drop i).all (zS g)}) (fun i=>⟨[(2,.c (.d (.rp g.enc))),(5,.c (.d (.fn 55 [] [.rp g.enc]))),(6,.c (.d (.sl .lists L))),(18,.c (.d (.sl .lists L))),(19,.int L.length),(20,.int i.1)],[],32⟩) (fun i=>L.length-i.1) ⟨0,Nat.zero_le _,by rw[List.drop_zero]⟩ ?_ ?_⟩
 ·exact⟨[],.cons _ _ _ (.c _ _ (.frz _ _ rfl)) (.cons _ _ _ (.c _ _ (.frz _ _ rfl)) (.cons _ _ _ (.frz rfl hL.symm) (.cons _ _ _ (.frz rfl hL.symm) (.cons _ _ _ (.int_eq (by rw[hL];rfl)) (.cons _ _ _ .same .nil))))),.nil,rfl⟩
 ·rintro⟨i,hi,he⟩
  have hLe:(g.free::cs).all (zS g)=L.all (zS g):=by rw[hL]
  show ABr (decide ((i:Int)<(L.length:Int))) _ _
  refine⟨fun h=>?_,fun h=>?_⟩
  ·have hlt:i<L.length:=by simpa using h
   have he:L.all (zS g)=(zS g (L.getD i default)&&(L.drop (i+1)).all (zS g)):=by
    rw[he,List.drop_eq_getElem_cons hlt,List.all_cons,List.getD_eq_getElem?_getD,List.getElem?_eq_getElem hlt]
    rfl
   show AOb ((0:Int)<=(i:Int)/\(i:Int)<(L.length:Int)) _
   refine⟨by omega,?_⟩
   show ACall ..
   refine za (zqq g (L.getD i default) hs) rfl ?_
   show ABr (!zS g (L.getD i default)) _ _
   refine⟨fun h=>?_,fun h=>?_⟩
   ·have hf:zS g (L.getD i default)=false:=by simpa using h
    show ARet ..
    refine zo (x:=false) ?_ ⟨rfl,rfl⟩
    rw[hLe,he,hf]
    rfl
   ·have hf:zS g (L.getD i default)=true:=by simpa using h
    show ARound ..
    exact⟨⟨i+1,hlt,by rw[he,hf,Bool.true_and]⟩,by show L.length-(i+1)<L.length-i;omega,[],.cons _ _ _ .same (.cons _ _ _ .same (.cons _ _ _ .same (.cons _ _ _ .same (.cons _ _ _ .same (.cons _ _ _ (.int_eq (zP (i:=i) (by unfold zA;omega))) .nil))))),.nil,rfl⟩
  ·have hge:i=L.length:=by simp at h;omega
   rw[hge,List.drop_length]at he
   have hall:(g.free::cs).all (zS g)=true:=by rw[hLe,he];rfl
   show ACall ..
   refine .mk _ (zjw g.pages) fun H r ⟨eH,er⟩ _ _=>⟨.inl rfl,?_⟩
   subst eH er
   show ACall ..
   refine za (zd7 (cellStarts g.pages) 55 [.rp g.enc] (zah g) (fun x hx=>zq0 g x hs (zdT hx))) rfl ?_
   show AIf ((cellStarts g.pages).all (zah g)=true/\True) _ _
   refine⟨fun h1=>?_,fun h1=>?_⟩
   ·show ACall ..
    refine za (zrG L (by rw[hL];exact hm)) rfl ?_
    show ARet ..
    refine zo (x:=decide (flats L).Nodup) ?_ ⟨rfl,rfl⟩
    rw[hall,h1.1,hL]
    rfl
   ·have h1:(cellStarts g.pages).all (zah g)=false:=Bool.eq_false_iff.2 fun h'=>h1 ⟨h',trivial⟩
    show AOb ((cellStarts g.pages).all (zah g)=false) _
    refine⟨h1,?_⟩
    show ARet ..
    refine zo (x:=false) ?_ ⟨rfl,rfl⟩
    rw[hall,h1]
    rfl
def zin (l:List Int):List (Int×CV):=l.foldl (fun m k=>zeN m k (.d (DV.bo true))) []
def zj2 (l:List Int):List (Int×Bool):=(zin l).map fun p=>(p.1,true)
def zuq (m:List (Int×CV)):Prop:=∀p∈m,p.2 = .d (DV.bo true)
theorem zuj {m:List (Int×CV)} {n:Int} (h:zuq m):zuq (zeN m n (.d (DV.bo true))):=by
 induction m with
 |nil=>intro p hp;simp[zeN]at hp;rw[hp]
 |cons q r ih=>
  obtain⟨k,y⟩:=q
  simp only[zeN]
  by_cases hk:(n==k)=true
  ·rw[hk]
   intro p hp
   rcases List.mem_cons.1 hp with rfl|hp
   ·rfl
   ·exact h p (List.mem_cons_of_mem _ hp)
  ·rw[Bool.eq_false_iff.2 hk]
   intro p hp
   rcases List.mem_cons.1 hp with rfl|hp
   ·exact h _ (List.mem_cons_self ..)
   ·exact ih (fun p hp=>h p (List.mem_cons_of_mem _ hp)) p hp
theorem zm3 (l:List Int) (n:Int):zin (l++[n])=zeN (zin l) n (.d (DV.bo true)):=by unfold zin;rw[List.foldl_append];rfl
theorem zms (l:List Int):zuq (zin l):=by
 unfold zin
 suffices ∀m,zuq m->zuq (l.foldl (fun m k=>zeN m k (.d (DV.bo true))) m) from this [] (fun p hp=>by cases hp)
 induction l with
 |nil=>intro m h;exact h
 |cons x r ih=>intro m h;exact ih _ (zuj h)
theorem zwf {m:List (Int×CV)} (h:zuq m):toB m=some (m.map fun p=>(p.1,true)):=by
 induction m with
 |nil=>rfl
 |cons q r ih=>
  obtain⟨k,y⟩:=q
  have hy:y = .d (DV.bo true):=h (k,y) (List.mem_cons_self ..)
  subst hy
  simp only[toB,ih (fun p hp=>h p (List.mem_cons_of_mem _ hp)),List.map_cons]
  rfl
theorem zwm (l:List Int):toB (zin l)=some (zj2 l):=zwf (zms l)
theorem zvc (l:List Int):(zin l).all (fun p=>isD p.2)=true:=List.all_eq_true.2 fun p hp=>by rw[zms l p hp];rfl
theorem zwn (l:List Int) (n:Int) (b:Bool):(zeN (zin l) n (.d (DV.bo true))).all (fun p=>isD p.2)=true:=by rw[←zm3];exact zvc _
theorem LeB.map_eq {ρ:List (Nat×Nat)} {h h' : zh} {l m:List (Int×CV)} (e:l=m) (h1:l.all (fun p=>isD p.2)=true):LeB ρ h h' (.map l) (.map m):=by subst e;exact .map l h1
theorem ztZ {m:List (Int×CV)} (n a:Int) (x:CV):zcM ((zeN m n x).map fun p=>(p.1,true)) a=(a==n || zcM (m.map fun p=>(p.1,true)) a):=by
 induction m with
 |nil=>simp[zeN,zcM]
 |cons q r ih=>
  obtain⟨k,y⟩:=q
  simp only[zeN]
  by_cases hk:n=k
  ·subst hk
   by_cases ha:a=n<;>simp[zcM,ha]
  ·have hk' : (n==k)=false:=by simp[hk]
   rw[hk']
   simp only[cond_false,List.map_cons,zcM,ih]
   by_cases ha:a=k
   ·subst ha
    simp
   ·have ha' : (a==k)=false:=by simp[ha]
    rw[ha']
    rfl
theorem zrs (l:List Int) (a:Int):zcM (zj2 l) a=l.contains a:=by
 unfold zj2 zin
 suffices ∀m,zcM ((l.foldl (fun m k=>zeN m k (.d (DV.bo true))) m).map fun p=>(p.1,true)) a=(zcM (m.map fun p=>(p.1,true)) a || l.contains a) from by
  rw[this];simp[zcM]
 induction l with
 |nil=>intro m;simp
 |cons x r ih=>
  intro m
  rw[List.foldl_cons,ih,ztZ]
  rw[List.contains_cons]
  cases (a==x)<;>cases zcM (m.map fun p=>(p.1,true)) a<;>rfl
theorem ACall.mk' {f:Nat} {args args' : List TV} {h:zh} {base:Nat} {k:TV->zh->Prop} {r:TV} (he:args.map (zdp h)=args') (hT:Spec X f [] args' (Ret [] r)) (hl:zcu 8 r=true) (hk:k (shT base 8 r) []):ACall X f args h base k:=
 za (by rw[he];exact hT) (by rw[hl,Bool.or_true]) hk
theorem zpZ (g:Hp) (F:List Int) (a:Int) (hs:zD g=true) (ha:adr g a) :
  Spec X 112 [] (.int a::zcS [.rp g.enc,.rp [.mp (zj2 F)]]) (Ret [] (.bo (zf g a != 0 || F.contains a))):=by
 obtain⟨_,_,hsl,_⟩:=zm hs
 refine zGO X_ok Tryz.f112 fun hb hH=>⟨rfl,?_⟩
 show ACall ..
 refine za (ze0 g a hsl ha) rfl ?_
 show ARet ..
 refine zo (x:=bif zf g a != 0 then true else zcM (zj2 F) a) ?_ ⟨rfl,rfl⟩
 rw[zrs]
 cases zf g a != 0<;>rfl
theorem zqY (g:Hp) (cs:List Lists) (hm:(flats (zec g cs)).length<=zi) (hc:cs.length<zi):Spec X 73 [] [g.tv,.c (.d (.sl .lists cs))] (Ret [] (.bo (zt g cs))):=by
 refine zGO X_ok Tryz.f73 fun hb hH=>⟨rfl,?_⟩
 unfold zt
 show ACall ..
 refine za (zeo g cs hm hc) rfl ?_
 show ABr (!zw g cs) _ _
 refine⟨fun h=>?_,fun h=>?_⟩
 ·have hs:zw g cs=false:=by simpa using h
  rw[hs]
  show ARet ..
  exact zg rfl ⟨rfl,rfl⟩
 have hmy:zw g cs=true:=by simpa using h
 rw[hmy]
 have hs:zD g=true:=by unfold zw at hmy;rw[Bool.and_eq_true]at hmy;exact hmy.1
 show AOb (1+cs.length<=zi) _
 refine⟨by omega,?_⟩
 show ACall ..
 refine .mk _ (zoS (g.free::cs) hm) fun H r hq _ _=>?_
 obtain⟨rfl,rfl⟩:=hq
 refine⟨.inr ⟨rfl,rfl⟩,?_⟩
 obtain⟨F,hF⟩:∃F:List Int,F=flats (g.free::cs):=⟨_,rfl⟩
 have hlen:F.length<=zi:=by rw[hF];exact hm
 unfold zi at hlen
 show ∃n,_
 refine⟨0,ALoop.inv (ι:={i:Nat // i<=F.length}) (fun i=>⟨[(2,.c (.d (.rp g.enc))),(5,.c (.ptr 1 0 0)),(18,.c (.d (.sl .int F))),(19,.int F.length),(20,.int i.1)],[(1,.vars [.own 2]),(2,.map (zin (F.take i.1)))],96⟩) (fun i=>F.length-i.1) ⟨0,Nat.zero_le _⟩ ?_ ?_⟩
 ·exact⟨[(256,1),(224,2)],.cons _ _ _ (.c _ _ (.frz _ _ rfl)) (.cons _ _ _ (.c _ _ (.ptr _ _ _ _ rfl)) (.cons _ _ _ (.frz rfl hF.symm) (.cons _ _ _ (.int_eq (by rw[hF];rfl)) (.cons _ _ _ .same .nil)))),.old 1 256 _ _ _ rfl rfl (.vars _ _ (.cons _ _ _ _ (.own _ _ rfl) .nil)) (.old 2 224 _ _ _ rfl rfl (.map_eq (by rw[List.take_zero];rfl) rfl) .nil),rfl⟩
 ·rintro⟨i,hi⟩
  show ABr (decide ((i:Int)<(F.length:Int))) _ _
  refine⟨fun h=>?_,fun h=>?_⟩
  ·have hlt:i<F.length:=by simpa using h
   show AOb ((0:Int)<=(i:Int)/\(i:Int)<(F.length:Int)) _
   refine⟨by omega,?_⟩
   show ARound ..
   exact⟨⟨i+1,hlt⟩,by show F.length-(i+1)<F.length-i;omega,[(1,1),(2,2)],.cons _ _ _ .same (.cons _ _ _ (.c _ _ (.ptr _ _ _ _ rfl)) (.cons _ _ _ .same (.cons _ _ _ .same (.cons _ _ _ (.int_eq (zP (i:=i) (by unfold zA;omega))) .nil)))),.old 1 1 _ _ _ rfl rfl (.vars _ _ (.cons _ _ _ _ (.own _ _ rfl) .nil)) (.old 2 2 _ _ _ rfl rfl (.map_eq (l:=zeN (zin (F.take i)) (F.getD (i:Int).toNat default) (.d (DV.bo true))) (by rw[zdf hlt,zm3];rfl) (zwn _ _ true)) .nil),rfl⟩
  ·have hge:i=F.length:=by simp at h;omega
   subst hge
   show ACall ..
   refine .mk _ (zjw g.pages) fun H r hq _ _=>?_
   obtain⟨rfl,rfl⟩:=hq
   refine⟨.inl rfl,?_⟩
   have hB:=zwm F
   rw[List.take_length]
   show ACall ..
   refine .mk' (args':=[.c (.d (.sl .int (cellStarts g.pages))),.c (.d (.fn 112 [] [.rp g.enc,.rp [.mp (zj2 F)]]))]) ?_ (zd7 (cellStarts g.pages) 112 [.rp g.enc,.rp [.mp (zj2 F)]] (fun a=>zf g a != 0 || F.contains a) (fun x hx=>zpZ g F x hs (zdT hx))) rfl ?_
   ·show [zdp _ _,zdp [(192,.data .int (cellStarts g.pages)),(1,.vars [.own 2]),(2,.map (zin F))] (.c (.cl 112 [] [.d (.rp g.enc),.ptr 1 0 0]))]=[_,_]
    have e2:zdp [(192,.data .int (cellStarts g.pages)),(1,.vars [.own 2]),(2,.map (zin F))] (.c (.cl 112 [] [.d (.rp g.enc),.ptr 1 0 0])) = .c (.d (.fn 112 [] [.rp g.enc,.rp [.mp (zj2 F)]])):=by
     simp[zdp,zbE,zbX,zj,hB,show Nat.beq 192 1=false from rfl,show Nat.beq 192 2=false from rfl,show Nat.beq 1 2=false from rfl,show Nat.beq 1 1=true from rfl,show Nat.beq 2 2=true from rfl]
    rw[e2]
    rfl
   ·show ARet ..
    refine zo (x:=(cellStarts g.pages).all fun a=>zf g a != 0 || F.contains a) ?_ ⟨rfl,rfl⟩
    rw[hF]
    rfl
abbrev zyb:TV:=.lit (.slice none 0 0)
def Hp.zero:Hp:=⟨[],[],⟨[],[],[]⟩,[]⟩
def Hp.light (h:Hp):Prop:=(flats [h.free]).length<=zi
def headE (h:Hp) (a:Int):Int:=bif zw h [] then (bif decide (ze h.pages a=0) then 3 else (bif (unp (zf h a)).used then 0 else 3)) else 1
def headH (h:Hp) (a:Int):Hd:=bif decide (headE h a=0) then unp (zf h a) else Hd.zero
def zaa (h:Hp):List Int:=bif zw h [] then (cellStarts h.pages).filter (fun a=>zf h a != 0) else []
def newH (n:Int):Hp:=bif pgN n then ⟨zer (n*16).toNat,List.replicate n.toNat ⟨0,0⟩,⟨[],[],[]⟩,List.replicate (2*n).toNat false⟩ else Hp.zero
theorem zbM (g:Hp) (hl:g.light):Spec X 26 [] [g.tv,zyb] (Ret [] (.bo (zw g []))):=
 (zeo g [] hl (by unfold zi;simp)).args (.cons _ _ _ _ (.refl _) (.cons _ _ _ _ (.sl .lists [] _ rfl) .nil))
theorem zF {h:Hp} {cs:List Lists} (hm:zw h cs=true):zD h=true:=by
 unfold zw at hm;rw[Bool.and_eq_true]at hm;exact hm.1
theorem zbg {g:Hp} {a:Int} {e:Int} (h:headE g a=e) (he:e≠0):headH g a=Hd.zero:=by unfold headH;rw[h,decide_eq_false he];rfl
theorem zas {g:Hp} {a:Int} (h:headE g a=0):headH g a=unp (zf g a):=by unfold headH;rw[h];rfl
theorem zaI (g:Hp) (a:Int) (hl:g.light):Spec X 19 [] [g.tv,.int a] (Ret [] (.tup [(headH g a).tv,.int (headE g a)])):=by
 refine zGO X_ok Tryz.f19 fun hb hH=>⟨rfl,?_⟩
 show ACall ..
 refine za (zbM g hl) rfl ?_
 show ABr (!zw g []) _ _
 refine⟨fun h=>?_,fun h=>?_⟩
 ·have hm:zw g []=false:=by simpa using h
  have hE:headE g a=1:=by unfold headE;rw[hm];rfl
  rw[zbg hE (by decide),hE]
  show ARet ..
  exact zg rfl ⟨rfl,rfl⟩
 have hm:zw g []=true:=by simpa using h
 have hs:=zF hm
 obtain⟨_,_,hsl,_⟩:=zm hs
 show ACall ..
 refine za (zfa g.pages a) rfl ?_
 show ABr (decide (ze g.pages a=0)) _ _
 refine⟨fun h=>?_,fun h=>?_⟩
 ·have hE:headE g a=3:=by unfold headE;rw[hm,h];rfl
  rw[zbg hE (by decide),hE]
  show ARet ..
  exact zg rfl ⟨rfl,rfl⟩
 ·have had:=zak (h:=g) (a:=a) (of_decide_eq_false h)
  have hr:=h
  show ACall ..
  refine za (ze0 g a hsl had) rfl ?_
  show ACall ..
  refine za (ziP (zf g a)) rfl ?_
  show ABr (!(unp (zf g a)).used) _ _
  refine⟨fun h=>?_,fun h=>?_⟩
  ·have hu:(unp (zf g a)).used=false:=by simpa using h
   have hE:headE g a=3:=by unfold headE;rw[hm,hr,hu];rfl
   rw[zbg hE (by decide),hE]
   show ARet ..
   exact zg rfl ⟨rfl,rfl⟩
  ·have hu:(unp (zf g a)).used=true:=by simpa using h
   have hE:headE g a=0:=by unfold headE;rw[hm,hr,hu];rfl
   rw[zas hE,hE]
   show ARet ..
   exact zg rfl ⟨rfl,rfl⟩
theorem zrY (g:Hp) (a:Int) (hs:zD g=true) (ha:adr g a):Spec X 29 [] (.int a::zcS [.rp g.enc]) (Ret [] (.bo (zf g a==0))):=by
 obtain⟨_,_,hsl,_⟩:=zm hs
 refine zGO X_ok Tryz.f29 fun hb hH=>⟨rfl,?_⟩
 show ACall ..
 refine za (ze0 g a hsl ha) rfl ?_
 show ARet ..
 exact zg rfl ⟨rfl,rfl⟩
theorem zhE (g:Hp) (hl:g.light):Spec X 15 [] [g.tv] (Ret [] (.c (.d (.sl .int (zaa g))))):=by
 refine zGO X_ok Tryz.f15 fun hb hH=>⟨rfl,?_⟩
 unfold zaa
 show ACall ..
 refine za (zbM g hl) rfl ?_
 show ABr (!zw g []) _ _
 refine⟨fun h=>?_,fun h=>?_⟩
 ·have hm:zw g []=false:=by simpa using h
  rw[hm]
  show ARet ..
  exact zfM (.nilsl rfl) ⟨rfl,rfl⟩
 have hm:zw g []=true:=by simpa using h
 have hs:=zF hm
 rw[hm]
 show ACall ..
 refine .mk _ (zjw g.pages) fun H r hq _ _=>?_
 obtain⟨rfl,rfl⟩:=hq
 refine⟨.inl rfl,?_⟩
 show ACall ..
 refine .hand [(_,16)] [(16,.data .int (cellStarts g.pages))] [.c (.own 16),.c (.d (.fn 29 [] [.rp g.enc]))] _ (.cons _ _ _ _ (.c _ _ (.own1 _ _)) (.cons _ _ _ _ (.c _ _ (.frz _ _ rfl)) .nil)) (.old 16 _ _ _ _ rfl rfl (.data_eq rfl) .nil) rfl (zkg (cellStarts g.pages) _ [.rp g.enc] (fun a=>zf g a==0) (fun x hx=>zrY g x hs (zdT hx))) ?_
 rintro H r ⟨z,rfl,rfl⟩ _ _
 refine⟨rfl,.inr ⟨rfl,rfl⟩,?_⟩
 show ARet ..
 have ef:(cellStarts g.pages).filter (fun a=>zf g a != 0)=(cellStarts g.pages).filter (fun x=>!(fun a=>zf g a==0) x):=rfl
 rw[ef]
 generalize hF:(cellStarts g.pages).filter (fun x=>!(fun a=>zf g a==0) x)=F
 have hle:Nat.ble (0+F.length) (F++z).length=true:=Nat.ble_eq_true_of_le (by rw[List.length_append];omega)
 refine zfM (.frz (k:=.int) (l:=((F++z).drop 0).take F.length) ?_ ?_) ⟨rfl,rfl⟩
 ·show(bif Nat.ble (0+F.length) (F++z).length then some (DV.sl .int (((F++z).drop 0).take F.length)) else none)=_
  rw[hle]
  rfl
 ·show((F++z).drop 0).take F.length=F
  rw[List.drop_zero,List.take_left]
theorem ztM (n:Int):Spec X 14 [] [.int n] (Ret [] (.tup [(newH n).tv,.int (newE n)])):=by
 refine zGO X_ok Tryz.f14 fun hb hH=>⟨rfl,?_⟩
 show ACall ..
 refine za (ztu n) rfl ?_
 cases hp:pgN n with
 |false=>
  have e1:newE n=1:=by unfold newE;rw[hp];rfl
  have e2:newH n=Hp.zero:=by unfold newH;rw[hp];rfl
  rw[e2,e1]
  refine zYE (by decide) ?_
  show ARet ..
  exact⟨[],[],_,.cons _ _ _ _ (.agg _ _ (.cons _ _ _ _ (.nilsl .int) (.cons _ _ _ _ (.nilsl .page) (.cons _ _ _ _ (.nilsl .int) (.cons _ _ _ _ (.nilsl .int) (.cons _ _ _ _ (.nilsl .int) (.cons _ _ _ _ (.nilsl .bool) .nil))))))) (.cons _ _ _ _ .same .nil),.nil,rfl,rfl,rfl⟩
 |true=>
  have e1:newE n=0:=by unfold newE;rw[hp];rfl
  have e2:newH n=⟨zer (n*16).toNat,List.replicate n.toNat ⟨0,0⟩,⟨[],[],[]⟩,List.replicate (2*n).toNat false⟩:=by unfold newH;rw[hp];rfl
  have e3:zwy n=zer (n*16).toNat:=by unfold zwy;rw[hp];rfl
  have hn:=of_decide_eq_true hp
  rw[e2,e1,e3]
  refine zNO (by decide) ?_
  show AOb ((0:Int)<=n/\n<=n/\n<=(zi:Int)) _
  refine⟨by unfold zi;omega,?_⟩
  have hl:(zer (n*16).toNat).length=(n*16).toNat:=by unfold zer;simp
  have ht:tdv ((zer (n*16).toNat).length:Int) 8=2*n:=by
   have:=zya (zer (n*16).toNat).length (by rw[hl];unfold zA;omega)
   rw[this,hl]
   omega
  show AOb ..
  refine⟨by decide,?_⟩
  show AOb ((0:Int)<=tdv ((zer (n*16).toNat).length:Int) 8/\tdv ((zer (n*16).toNat).length:Int) 8<=tdv ((zer (n*16).toNat).length:Int) 8/\tdv ((zer (n*16).toNat).length:Int) 8<=(zi:Int)) _
  refine⟨by rw[ht];unfold zi;omega,?_⟩
  show ARet ..
  exact⟨[],[],_,.cons _ _ _ _ (.agg _ _ (.cons _ _ _ _ (.d _) (.cons _ _ _ _ (.frz_eq (k:=.page) rfl rfl) (.cons _ _ _ _ (.nilsl .int) (.cons _ _ _ _ (.nilsl .int) (.cons _ _ _ _ (.nilsl .int) (.cons _ _ _ _ (.frz_eq (k:=.bool) (l:=List.replicate (tdv ((zer (n*16).toNat).length:Int) 8).toNat false) rfl (by rw[ht];rfl)) .nil))))))) (.cons _ _ _ _ .same .nil),.nil,rfl,rfl,rfl⟩
theorem ztD (g:Hp) (hl:g.light) (hs:zD g=true):Spec X 227 [] [g.tv] (Ret [] g.tv):=by
 refine zGO X_ok Tryz.f227 fun hb hH=>⟨rfl,?_⟩
 obtain⟨_,_,h1,h2,h3,h4⟩:=zm hs
 have hf:g.free.l0.length+g.free.l1.length+g.free.l2.length<=zi:=by
  have:=hl
  unfold Hp.light at this
  simp[flats,Lists.flat]at this
  omega
 have hm:1024<=zi:=by decide
 show ADCall ..
 refine .mk _ _ (zd g.w (by omega)) rfl ?_
 show ADCall ..
 refine .mk _ _ (zab g.pages (by omega)) rfl ?_
 show ADCall ..
 refine .mk _ _ (zae g.cards (by omega)) rfl ?_
 show ∃n,_
 refine⟨4,?_⟩
 show ALoop ..
 refine .next ?_
 refine zYE (by decide) ?_
 show AOb ..
 refine⟨by decide,?_⟩
 show ACall ..
 refine za (zd g.free.l0 (by omega)) rfl ?_
 show AOb ..
 refine⟨by decide,?_⟩
 show ALoop ..
 refine .next ?_
 refine zYE (by decide) ?_
 show AOb ..
 refine⟨by decide,?_⟩
 show ACall ..
 refine za (zd g.free.l1 (by omega)) rfl ?_
 show AOb ..
 refine⟨by decide,?_⟩
 show ALoop ..
 refine .next ?_
 refine zYE (by decide) ?_
 show AOb ..
 refine⟨by decide,?_⟩
 show ACall ..
 refine za (zd g.free.l2 (by omega)) rfl ?_
 show AOb ..
 refine⟨by decide,?_⟩
 show ALoop ..
 refine .next ?_
 refine zNO (by decide) ?_
 show ARet ..
 exact zg rfl ⟨rfl,rfl⟩
def zf9 (g:Hp) (a:Int) (x:Hd):Int:=bif decide (headE g a=0) then (bif decide (x.May/\x.used=true/\x.n=(headH g a).n) then 0 else 1) else headE g a
def zbT (g:Hp) (a:Int) (v:Int):Hp:=⟨g.w.set (a-16).toNat v,g.pages,g.free,g.cards⟩
def zhM (g:Hp) (a:Int) (x:Hd):Hp:=bif decide (zf9 g a x=0) then zbT g a x.word else Hp.zero
theorem zto {g:Hp} {a:Int} {x:Hd} {e:Int} (h:zf9 g a x=e) (he:e≠0):zhM g a x=Hp.zero:=by unfold zhM;rw[h,decide_eq_false he];rfl
theorem zeV {g:Hp} {a:Int} {x:Hd} (h:zf9 g a x=0):zhM g a x=zbT g a x.word:=by unfold zhM;rw[h];rfl
theorem zG {g:Hp} {a:Int} (h:headE g a=0):zw g []=true/\ze g.pages a≠0/\(unp (zf g a)).used=true:=by
 unfold headE at h
 cases hm:zw g [] with
 |false=>rw[hm]at h;exact absurd h (by simp)
 |true=>
  rw[hm]at h
  by_cases hr:ze g.pages a=0
  ·rw[decide_eq_true hr]at h;exact absurd h (by simp)
  ·rw[decide_eq_false hr]at h
   cases hu:(unp (zf g a)).used with
   |false=>rw[hu]at h;exact absurd h (by decide)
   |true=>exact⟨rfl,hr,rfl⟩
theorem zjk (g:Hp) (a:Int) (x:Hd) (hl:g.light):Spec X 187 [] [g.tv,.int a,x.tv] (Ret [] (.tup [(zhM g a x).tv,.int (zf9 g a x)])):=by
 refine zGO X_ok Tryz.f187 fun hb hH=>⟨rfl,?_⟩
 show ACall ..
 refine za (zaI g a hl) rfl ?_
 show ABr (headE g a != 0) _ _
 refine⟨fun h=>?_,fun h=>?_⟩
 ·have h0:headE g a≠0:=by simpa using h
  have hE:zf9 g a x=headE g a:=by unfold zf9;rw[decide_eq_false h0];rfl
  rw[zto hE h0,hE]
  show ARet ..
  exact⟨[],[],_,.cons _ _ _ _ (.agg _ _ (.cons _ _ _ _ (.nilsl .int) (.cons _ _ _ _ (.nilsl .page) (.cons _ _ _ _ (.nilsl .int) (.cons _ _ _ _ (.nilsl .int) (.cons _ _ _ _ (.nilsl .int) (.cons _ _ _ _ (.nilsl .bool) .nil))))))) (.cons _ _ _ _ .same .nil),.nil,rfl,rfl,rfl⟩
 ·have h0:headE g a=0:=by simpa using h
  obtain⟨hm,hr,hu⟩:=zG h0
  have hs:=zF hm
  obtain⟨hw,_,hsl,_⟩:=zm hs
  have had:=zak (h:=g) (a:=a) hr
  show ACall ..
  refine za (zli x) rfl ?_
  have hiff:(bif (bif zcy x != 0 then true else !x.used) then true else x.n != (headH g a).n) = !decide (x.May/\x.used=true/\x.n=(headH g a).n):=by
   unfold zcy
   by_cases c1:x.May
   ·rw[if_pos c1]
    cases c2:x.used with
    |false=>simp[c1,c2]
    |true=>
     by_cases c3:x.n=(headH g a).n<;>simp[c1,c2,c3]
   ·rw[if_neg c1]
    simp[c1]
  show ABr (bif (bif zcy x != 0 then true else !x.used) then true else x.n != (headH g a).n) _ _
  rw[hiff]
  refine⟨fun h=>?_,fun h=>?_⟩
  ·have hc:decide (x.May/\x.used=true/\x.n=(headH g a).n)=false:=by
    cases hd:decide (x.May/\x.used=true/\x.n=(headH g a).n) with
    |false=>rfl
    |true=>rw[hd]at h;exact absurd h (by decide)
   have hE:zf9 g a x=1:=by unfold zf9;rw[h0,hc];rfl
   rw[zto hE (by decide),hE]
   show ARet ..
   exact⟨[],[],_,.cons _ _ _ _ (.agg _ _ (.cons _ _ _ _ (.nilsl .int) (.cons _ _ _ _ (.nilsl .page) (.cons _ _ _ _ (.nilsl .int) (.cons _ _ _ _ (.nilsl .int) (.cons _ _ _ _ (.nilsl .int) (.cons _ _ _ _ (.nilsl .bool) .nil))))))) (.cons _ _ _ _ .same .nil),.nil,rfl,rfl,rfl⟩
  ·have hc:decide (x.May/\x.used=true/\x.n=(headH g a).n)=true:=by
    cases hd:decide (x.May/\x.used=true/\x.n=(headH g a).n) with
    |true=>rfl
    |false=>rw[hd]at h;exact absurd h (by decide)
   have hE:zf9 g a x=0:=by unfold zf9;rw[h0,hc];rfl
   have hM:x.May:=(of_decide_eq_true hc).1
   rw[zeV hE,hE]
   show ACall ..
   refine za (ztD g hl hs) rfl ?_
   have hp:zhd x=x.word:=if_pos hM
   show ACall ..
   refine za (ze8 g.w a (zhd x) hw ⟨had.1,by have:=had.2;omega⟩) rfl ?_
   rw[hp]
   show ARet ..
   exact zg rfl ⟨rfl,rfl⟩
end Go.Abs
namespace Go.Abs
theorem zai {g:Hp} {cs:List Lists} (h:zw g cs=true):zD g=true/\(∀l∈g.free::cs,zS g l=true)/\(∀a∈cellStarts g.pages,zah g a=true)/\(flats (g.free::cs)).Nodup:=by
 unfold zw at h
 simp only[Bool.and_eq_true,List.all_eq_true,decide_eq_true_eq]at h
 exact⟨h.1,h.2.1,h.2.2.1,h.2.2.2⟩
theorem zdD {g:Hp} {cs:List Lists} (h1:zD g=true) (h2:∀l∈g.free::cs,zS g l=true) (h3:∀a∈cellStarts g.pages,zah g a=true) (h4:(flats (g.free::cs)).Nodup):zw g cs=true:=by
 unfold zw
 simp only[Bool.and_eq_true,List.all_eq_true,decide_eq_true_eq]
 exact⟨h1,h2,h3,h4⟩
theorem zoD {w:Int} (h:zfN w=true):unp w=zfv w/\(zfv w).May:=by
 have hm:(zfv w).May:=of_decide_eq_true h
 exact⟨if_pos hm,hm⟩
theorem zgV {w:Int} (h:zfN w=true):(unp w).used=(w != 0):=by
 obtain⟨e,hm⟩:=zoD h
 rw[e]
 cases hu:(zfv w).used with
 |true=>
  have h1:w % 2=1:=of_decide_eq_true hu
  have:w≠0:=by omega
  simp[this]
 |false=>
  have hz:zfv w=Hd.zero:=by
   unfold Hd.May at hm
   rw[if_neg (by simp[hu])]at hm
   exact hm
  have:=zg4 w
  rw[hz]at this
  have hw:w=0:=by rw[←this];rfl
  subst hw
  rfl
theorem zcc {x:Hd} (hm:x.May):unp x.word=x/\zfN x.word=true:=by
 have e:=ztP hm
 constructor
 ·unfold unp;rw[if_pos (by rw[e];exact hm),e]
 ·unfold zfN;rw[e];exact decide_eq_true hm
theorem zh9 {x:Hd} (hm:x.May) (hu:x.used=true):x.word≠0:=by
 have h:=zgV (zcc hm).2
 rw[(zcc hm).1,hu]at h
 intro e
 rw[e]at h
 exact absurd h (by decide)
theorem zva {n c:Int} (h1:zap n=0) (h2:zC n=c) (hc:0<=c/\c<=2):1<=n/\n<clsW c:=by
 have hn:¬n<1/\¬n>63:=by
  unfold zap at h1
  by_cases g1:n<1
  ·rw[if_pos g1]at h1;exact absurd h1 (by decide)
  ·rw[if_neg g1]at h1
   by_cases g2:n>63
   ·rw[if_pos g2]at h1;exact absurd h1 (by decide)
   ·exact⟨g1,g2⟩
 unfold zC at h2
 rw[if_neg (by omega)]at h2
 by_cases g1:n<=1
 ·rw[if_pos g1]at h2;subst h2;exact⟨by omega,by rw[show clsW 0=2 from rfl];omega⟩
 ·rw[if_neg g1]at h2
  by_cases g2:n<=3
  ·rw[if_pos g2]at h2;subst h2;exact⟨by omega,by rw[show clsW 1=4 from rfl];omega⟩
  ·rw[if_neg g2]at h2
   by_cases g3:n<=7
   ·rw[if_pos g3]at h2;subst h2;exact⟨by omega,by rw[show clsW 2=8 from rfl];omega⟩
   ·rw[if_neg g3]at h2;omega
theorem zvN {n c:Int} (h1:zdI n=0) (h2:zaD n=c):1<=n/\n<16*c/\zap n=0:=by
 unfold zdI at h1
 unfold zaD at h2
 by_cases g0:zap n≠0
 ·rw[if_pos g0]at h1;exact absurd h1 g0
 ·rw[if_neg g0]at h1 h2
  have hE:zap n=0:=by omega
  by_cases g1:zC n<3
  ·rw[if_pos g1]at h1;exact absurd h1 (by decide)
  ·rw[if_neg g1]at h2
   have hn:¬n<1:=by
    intro g
    unfold zap at hE
    rw[if_pos g]at hE
    exact absurd hE (by decide)
   exact⟨by omega,by omega,hE⟩
theorem ztX {g:Hp} {a:Int} (hr:ze g.pages a≠0) (hc:zah g a=true) (hu:(unp (zf g a)).used=true):1<=(unp (zf g a)).n/\(unp (zf g a)).n<ze g.pages a:=by
 obtain⟨_,i,hi⟩:=zac (zq hr)
 unfold zah at hc
 rw[hu,cond_true,Bool.and_eq_true]at hc
 have hpg:zQ g a=g.pages.getD i default:=by
  unfold zQ
  have:=hi.div
  simp only at this
  rw[this]
  simp
 have hf:=hc.2
 unfold zhq at hf
 rw[hpg]at hf
 rcases hi.kind with⟨k1,k2,k3,_,k5⟩|⟨k1,k2,k3,_,k5⟩
 ·rw[k1]at hf
  have hf:=of_decide_eq_true (show decide _=true from hf)
  simp only at k5
  rw[k5]
  exact zva hf.1 hf.2 ⟨k2,k3⟩
 ·rw[k1]at hf
  have hf:=of_decide_eq_true (show decide _=true from hf)
  simp only at k5
  have:=zvN hf.1 hf.2
  rw[k5]
  omega
theorem zb9 {g:Hp} (hm:zw g []=true):zaa g=(cellStarts g.pages).filter (fun a=>zf g a != 0):=by unfold zaa;rw[hm];rfl
theorem zaJ {g:Hp} {a:Int}:a∈zaa g↔headE g a=0:=by
 constructor
 ·intro h
  cases hm:zw g [] with
  |false=>unfold zaa at h;rw[hm]at h;cases h
  |true=>
   rw[zb9 hm,List.mem_filter]at h
   have hr:=zn.1 h.1
   have hc:=(zai hm).2.2.1 a h.1
   unfold zah at hc
   rw[Bool.and_eq_true]at hc
   have hu:=zgV hc.1
   rw[h.2]at hu
   unfold headE
   rw[hm,decide_eq_false hr,hu]
   rfl
 ·intro h
  obtain⟨hm,hr,hu⟩:=zG h
  have hs:=zn.2 hr
  have hc:=(zai hm).2.2.1 a hs
  unfold zah at hc
  rw[Bool.and_eq_true]at hc
  rw[zb9 hm,List.mem_filter]
  exact⟨hs,by rw[←zgV hc.1];exact hu⟩
theorem zar {g:Hp} {a:Int} (h:headE g a=0):(headH g a).used=true/\1<=(headH g a).n/\(headH g a).n<ze g.pages a/\adr g a:=by
 obtain⟨hm,hr,hu⟩:=zG h
 rw[zas h]
 have:=ztX hr ((zai hm).2.2.1 a (zn.2 hr)) hu
 exact⟨hu,this.1,this.2,zak hr⟩
theorem zwJ {g:Hp} {a:Int} (hs:g.w.length=16*g.pages.length) (ha:adr g a):(a-16).toNat<g.w.length:=by
 have h1:=ha.1;have h2:=ha.2
 omega
theorem zkl {l:List Int} {i j:Nat} {v:Int} (hi:i<l.length):at0 (l.set i v) j=if i=j then v else at0 l j:=by
 unfold at0
 rw[List.getD_eq_getElem?_getD,List.getD_eq_getElem?_getD,List.getElem?_set]
 by_cases h:i=j
 ·rw[if_pos h,if_pos hi,if_pos h];rfl
 ·rw[if_neg h,if_neg h]
theorem zem {g:Hp} {a u v:Int} (hs:g.w.length=16*g.pages.length) (ha:adr g a) (hu:adr g u):zf (zbT g a v) u=if u=a then v else zf g u:=by
 unfold zf
 show at0 (g.w.set (a-16).toNat v) (u-16).toNat=_
 rw[zkl (zwJ hs ha)]
 have h1:=ha.1;have h2:=hu.1
 by_cases h:u=a
 ·subst h;rw[if_pos rfl,if_pos rfl]
 ·rw[if_neg h,if_neg (by omega)]
theorem zrC (g:Hp) (a v:Int):zD (zbT g a v)=zD g:=by
 unfold zD zbT zba
 simp only[List.length_set]
theorem zlL {g:Hp} {a v:Int} (hs:g.w.length=16*g.pages.length) (ha:adr g a) (h0:zf g a≠0) (hv:v≠0) (c u:Int):zL (zbT g a v) c u=zL g c u:=by
 unfold zL
 show decide (0<ze g.pages u/\zQ g u=⟨1,c⟩/\zf (zbT g a v) u=0)=_
 by_cases hr:0<ze g.pages u
 ·have hu:=zak (h:=g) (a:=u) (by omega)
  rw[zem hs ha hu]
  by_cases e:u=a
  ·subst e
   simp[hv,h0]
  ·rw[if_neg e]
 ·simp[hr]
theorem zry {g:Hp} {a v:Int} (hs:g.w.length=16*g.pages.length) (ha:adr g a) (h0:zf g a≠0) (hv:v≠0) (l:Lists):zS (zbT g a v) l=zS g l:=by
 unfold zS
 rw[show zL (zbT g a v) 0=zL g 0 from funext (zlL hs ha h0 hv 0),show zL (zbT g a v) 1=zL g 1 from funext (zlL hs ha h0 hv 1),show zL (zbT g a v) 2=zL g 2 from funext (zlL hs ha h0 hv 2)]
structure PutOk (g:Hp) (a:Int) (x:Hd):Prop where
 may:zw g []=true
 room:ze g.pages a≠0
 used:(unp (zf g a)).used=true
 xmay:x.May
 xused:x.used=true
 xn:x.n=(unp (zf g a)).n
theorem zw7 {g:Hp} {a:Int} {x:Hd} (h:zf9 g a x=0):PutOk g a x/\headE g a=0:=by
 unfold zf9 at h
 by_cases h0:headE g a=0
 ·rw[decide_eq_true h0]at h
  obtain⟨h1,h2,h3⟩:=zG h0
  cases hd:decide (x.May/\x.used=true/\x.n=(headH g a).n) with
  |false=>rw[hd]at h;exact absurd h (by simp)
  |true=>
   obtain⟨g1,g2,g3⟩:=of_decide_eq_true hd
   rw[zas h0]at g3
   exact⟨⟨h1,h2,h3,g1,g2,g3⟩,h0⟩
 ·rw[decide_eq_false h0]at h
  exact absurd h h0
theorem PutOk.w0 {g:Hp} {a:Int} {x:Hd} (h:PutOk g a x):zf g a≠0:=by
 have hc:=(zai h.may).2.2.1 a (zn.2 h.room)
 unfold zah at hc
 rw[Bool.and_eq_true]at hc
 have:=zgV hc.1
 rw[h.used]at this
 simpa using this.symm
theorem zqP {g:Hp} {a:Int} {x:Hd} (h:PutOk g a x) {u:Int} (hu:u∈cellStarts g.pages):zah (zbT g a x.word) u=zah g u:=by
 obtain⟨_,_,hs,_⟩:=zm (zai h.may).1
 unfold zah
 rw[zem hs (zak h.room) (zdT hu)]
 by_cases e:u=a
 ·subst e
  rw[if_pos rfl,(zcc h.xmay).1,(zcc h.xmay).2,h.xused,h.xn,h.used]
  have hc:=(zai h.may).2.2.1 u hu
  unfold zah at hc
  rw[Bool.and_eq_true]at hc
  rw[hc.1]
  rfl
 ·rw[if_neg e]
  rfl
theorem zgY {g:Hp} {a:Int} {x:Hd} (h:PutOk g a x) (cs:List Lists):zw (zbT g a x.word) cs=zw g cs:=by
 obtain⟨_,_,hs,_⟩:=zm (zai h.may).1
 have h0:=h.w0
 have hx:=zh9 h.xmay h.xused
 have hl:=zry hs (zak h.room) h0 hx
 unfold zw
 rw[zrC]
 show(zD g&&((g.free::cs).all (zS (zbT g a x.word))&&((cellStarts g.pages).all (zah (zbT g a x.word))&&_)))=_
 rw[show zS (zbT g a x.word)=zS g from funext hl]
 have hc:(cellStarts g.pages).all (zah (zbT g a x.word))=(cellStarts g.pages).all (zah g):=by
  rw[Bool.eq_iff_iff,List.all_eq_true,List.all_eq_true]
  exact⟨fun k u hu=>by rw[←zqP h hu];exact k u hu,fun k u hu=>by rw[zqP h hu];exact k u hu⟩
 rw[hc]
 rfl
theorem zoq {g:Hp} {a:Int} {x:Hd} (h:PutOk g a x) {u:Int} (hu:u∈cellStarts g.pages):(zf (zbT g a x.word) u != 0)=(zf g u != 0):=by
 obtain⟨_,_,hs,_⟩:=zm (zai h.may).1
 have h0:=h.w0
 have hx:=zh9 h.xmay h.xused
 rw[zem hs (zak h.room) (zdT hu)]
 by_cases e:u=a
 ·subst e
  rw[if_pos rfl,(bne_iff_ne (a:=x.word) (b:=0)).2 hx,(bne_iff_ne (a:=zf g u) (b:=0)).2 h0]
 ·rw[if_neg e]
theorem zji {g:Hp} {a:Int} {x:Hd} (h:PutOk g a x) (cs:List Lists):zt (zbT g a x.word) cs=zt g cs:=by
 unfold zt
 rw[zgY h]
 congr 1
 show(cellStarts g.pages).all _=(cellStarts g.pages).all _
 rw[Bool.eq_iff_iff,List.all_eq_true,List.all_eq_true]
 constructor
 ·intro k u hu
  rw[←zoq h hu]
  exact k u hu
 ·intro k u hu
  have:=k u hu
  rw[←zoq h hu]at this
  exact this
theorem zlU {g:Hp} {a:Int} {x:Hd} (h:PutOk g a x):zaa (zbT g a x.word)=zaa g:=by
 unfold zaa
 rw[zgY h,h.may]
 show(cellStarts g.pages).filter _=(cellStarts g.pages).filter _
 exact List.filter_congr fun u hu=>zoq h hu
theorem zvg {g:Hp} {a:Int} {x:Hd} (h:PutOk g a x) {u:Int} (hu:headE g u=0):headE (zbT g a x.word) u=0/\headH (zbT g a x.word) u=if u=a then x else headH g u:=by
 obtain⟨_,hr,hus⟩:=zG hu
 obtain⟨_,_,hs,_⟩:=zm (zai h.may).1
 have hw:=zem (v:=x.word) hs (zak h.room) (zak hr)
 have hE:headE (zbT g a x.word) u=0:=by
  unfold headE
  rw[zgY h,h.may,hw]
  show(bif true then (bif decide (ze g.pages u=0) then 3 else _) else 1)=0
  rw[decide_eq_false hr]
  by_cases e:u=a
  ·rw[if_pos e,(zcc h.xmay).1,h.xused];rfl
  ·rw[if_neg e,hus];rfl
 refine⟨hE,?_⟩
 rw[zas hE,zas hu,hw]
 by_cases e:u=a
 ·rw[if_pos e,if_pos e,(zcc h.xmay).1]
 ·rw[if_neg e,if_neg e]
theorem zcQ {L:List Lists} {x:Int}:x∈flats L↔∃l∈L,x∈l.flat:=by unfold flats;exact List.mem_flatMap
theorem zdj {g:Hp} {l:Lists} {x:Int} (h:zS g l=true) (hx:x∈l.flat):0<ze g.pages x/\zf g x=0:=by
 unfold zS at h
 simp only[Bool.and_eq_true,List.all_eq_true]at h
 unfold Lists.flat at hx
 rw[List.mem_append,List.mem_append]at hx
 rcases hx with(hx|hx)|hx
 ·have:=of_decide_eq_true (h.1 x hx);exact⟨this.1,this.2.2⟩
 ·have:=of_decide_eq_true (h.2.1 x hx);exact⟨this.1,this.2.2⟩
 ·have:=of_decide_eq_true (h.2.2 x hx);exact⟨this.1,this.2.2⟩
open Go.Proofs Go.Proofs.YtlankjlnnimdoaaGreatDoor
set_option maxRecDepth 8000
theorem zvS {h:Hp} (a:h.free.l0.length<=4000000000) (b:h.free.l1.length<=4000000000) (c:h.free.l2.length<=4000000000):h.light:=by
 unfold Hp.light zi
 simp[flats,Lists.flat]
 omega
theorem zrc (l:List Int) (x:Int):Spec X 135 [] [.c (.d (.sl .int l)),.int x] (Ret [] (.int (zl3 (zep (fun y=>x==y) l)))):=by
 refine zGO X_ok Tryz.f135 fun hb _=>⟨rfl,?_⟩
 have hla:l.length<=zA:=(hb (.c (.d (.sl .int l))) (by simp)).1
 unfold zA at hla
 show ∃n,_
 refine⟨0,ALoop.inv (ι:={i:Nat // i<=l.length/\∀j,j<i->(x==at0 l j)=false}) (fun i=>⟨[(0,.c (.d (.sl .int l))),(1,.int x),(7,.int l.length),(8,.int i.1)],[],32⟩) (fun i=>l.length-i.1) ⟨0,Nat.zero_le _,fun j hj=>absurd hj (by omega)⟩ ?_ ?_⟩
 ·exact⟨[],.cons _ _ _ .same (.cons _ _ _ .same (.cons _ _ _ .same (.cons _ _ _ .same .nil))),.nil,rfl⟩
 ·rintro⟨i,hi,hn⟩
  show ABr (decide ((i:Int)<(l.length:Int))) _ _
  refine⟨fun h=>?_,fun h=>?_⟩
  ·have hlt:i<l.length:=by simpa using h
   show AOb ((0:Int)<=(i:Int)/\(i:Int)<(l.length:Int)) _
   refine⟨by omega,?_⟩
   show ABr (x==l.getD i default) _ _
   refine⟨fun h=>?_,fun h=>?_⟩
   ·show ARet ..
    refine zaA (x:=(i:Int)) ?_ ⟨rfl,rfl⟩
    rw[zjd (p:=fun y=>x==y) hlt hn h]
    rfl
   ·show ARound ..
    exact⟨⟨i+1,hlt,fun j hj=>by
     by_cases e:j=i
     ·subst e;exact h
     ·exact hn j (by omega)⟩,by show l.length-(i+1)<l.length-i;omega,[],.cons _ _ _ .same (.cons _ _ _ .same (.cons _ _ _ .same (.cons _ _ _ (.int_eq (zP (i:=i) (by unfold zA;omega))) .nil))),.nil,rfl⟩
  ·have hge:i=l.length:=by simp at h;omega
   show ARet ..
   refine zaA (x:=-1) ?_ ⟨rfl,rfl⟩
   rw[zjc (p:=fun y=>x==y) fun y hy=>?_]
   ·rfl
   ·obtain⟨j,hj,e⟩:=List.mem_iff_getElem.1 hy
    have:=hn j (by omega)
    rw[show at0 l j=y from by unfold at0;rw[List.getD_eq_getElem?_getD,List.getElem?_eq_getElem hj,e];rfl]at this
    exact this
theorem zml (l:List Int) (x:Int):Spec X 97 [] [.c (.d (.sl .int l)),.int x] (Ret [] (.bo (l.contains x))):=by
 refine zGO X_ok Tryz.f97 fun hb _=>⟨rfl,?_⟩
 show ACall ..
 refine za (zrc l x) rfl ?_
 show ARet ..
 refine zo (x:=decide (zl3 (zep (fun y=>x==y) l)>=0)) ?_ ⟨rfl,rfl⟩
 rw[zn4]
 exact(List.any_beq (l:=l) (a:=x))
def za7 (g:Hp) (a:Int):Int:=bif zw g [] then (bif decide (16<=a/\a<16+(g.w.length:Int)) then 0 else 3) else 1
def zbw (g:Hp) (a:Int):Int:=bif decide (za7 g a=0) then (a-16) / 8 else 0
def cset (g:Hp) (c:Int) (b:Bool):Hp:=⟨g.w,g.pages,g.free,g.cards.set c.toNat b⟩
def zaN (g:Hp) (a:Int):Hp:=bif decide (za7 g a=0) then cset g (zbw g a) true else Hp.zero
def zeP (g:Hp) (c:Int):Int:=bif zw g [] then (bif decide (0<=c/\c<(g.cards.length:Int)) then 0 else 3) else 1
def zco (g:Hp) (c:Int):Hp:=bif decide (zeP g c=0) then cset g c false else Hp.zero
def zob (g:Hp) (a:Int):Bool:=decide (za7 g a=0)&&g.cards.getD (zbw g a).toNat false
theorem zh6 (l:List Bool) (h:l.length<=zi) (hne:l≠[]):Spec X 65 [] [.c (.d (.sl .bool l))] (Ret [(0,.data .bool l)] (.c (.own 0))):=by
 refine zGO X_ok Tryz.f65 fun hb _=>⟨rfl,?_⟩
 intro b (hnil:b=true->l=[])
 show ABr ..
 refine⟨fun hb=>absurd (hnil hb) hne,fun hb=>?_⟩
 show AOb (0+l.length<=zi) _
 refine⟨by omega,?_⟩
 show ARet ..
 exact⟨[(_,0)],[(0,.data .bool l)],[.c (.own 0)],.cons _ _ _ _ (.c _ _ (.own1 _ _)) .nil,.old 0 _ _ _ _ rfl rfl (.data_eq rfl) .nil,rfl,rfl,rfl⟩
theorem zmJ (g:Hp) (c:Int) (b:Bool) (hl:g.light) (hs:zD g=true) (hc:0<=c/\c<(g.cards.length:Int)):Spec X 260 [] [g.tv,.int c,.bo b] (Ret [] (cset g c b).tv):=by
 refine zGO X_ok Tryz.f260 fun hb hH=>⟨rfl,?_⟩
 obtain⟨_,_,h1,h2,h3,h4⟩:=zm hs
 have hf:g.free.l0.length+g.free.l1.length+g.free.l2.length<=zi:=by
  have:=hl
  unfold Hp.light at this
  simp[flats,Lists.flat]at this
  omega
 have hm:1024<=zi:=by decide
 show ADCall ..
 refine .mk _ _ (zd g.w (by omega)) rfl ?_
 show ADCall ..
 refine .mk _ _ (zab g.pages (by omega)) rfl ?_
 show ADCall ..
 refine .mk _ _ (zh6 g.cards (by omega) (by intro e;rw[e]at hc;simp at hc;omega)) rfl ?_
 show ∃n,_
 refine⟨4,?_⟩
 show ALoop ..
 refine .next ?_
 refine zYE (by decide) ?_
 show AOb ..
 refine⟨by decide,?_⟩
 show ACall ..
 refine za (zd g.free.l0 (by omega)) rfl ?_
 show AOb ..
 refine⟨by decide,?_⟩
 show ALoop ..
 refine .next ?_
 refine zYE (by decide) ?_
 show AOb ..
 refine⟨by decide,?_⟩
 show ACall ..
 refine za (zd g.free.l1 (by omega)) rfl ?_
 show AOb ..
 refine⟨by decide,?_⟩
 show ALoop ..
 refine .next ?_
 refine zYE (by decide) ?_
 show AOb ..
 refine⟨by decide,?_⟩
 show ACall ..
 refine za (zd g.free.l2 (by omega)) rfl ?_
 show AOb ..
 refine⟨by decide,?_⟩
 show ALoop ..
 refine .next ?_
 refine zNO (by decide) ?_
 show AOb ((0:Int)<=c/\c<(g.cards.length:Int)) _
 refine⟨hc,?_⟩
 show AOb (c.toNat<g.cards.length) _
 refine⟨by omega,?_⟩
 show ARet ..
 exact⟨[],[],_,.cons _ _ _ _ (.agg _ _ (.cons _ _ _ _ (.d _) (.cons _ _ _ _ (.d _) (.cons _ _ _ _ (.d _) (.cons _ _ _ _ (.d _) (.cons _ _ _ _ (.d _) (.cons _ _ _ _ (.frz_eq (k:=.bool) (l:=g.cards.set c.toNat b) rfl rfl) .nil))))))) .nil,.nil,rfl,rfl,rfl⟩
theorem zoJ {g:Hp} {a:Int} (h:za7 g a=0):zw g []=true/\16<=a/\a<16+(g.w.length:Int):=by
 unfold za7 at h
 cases hm:zw g [] with
 |false=>rw[hm]at h;exact absurd h (by simp)
 |true=>
  rw[hm]at h
  by_cases hr:16<=a/\a<16+(g.w.length:Int)
  ·exact⟨rfl,hr⟩
  ·rw[decide_eq_false hr]at h;exact absurd h (by simp)
theorem ze4 {g:Hp} {a:Int} (h:zw g []=true) (ha:16<=a/\a<16+(g.w.length:Int)):za7 g a=0:=by unfold za7;rw[h,decide_eq_true ha];rfl
theorem zed {g:Hp} {a:Int} (h:za7 g a=0):zbw g a=(a-16) / 8:=by unfold zbw;rw[h];rfl
theorem ziZ {g:Hp} {a:Int} (h:za7 g a≠0):zbw g a=0:=by unfold zbw;rw[decide_eq_false h];rfl
theorem ztd {g:Hp} {a:Int} (h:za7 g a=0):0<=zbw g a/\zbw g a<(g.cards.length:Int):=by
 obtain⟨hm,h1,h2⟩:=zoJ h
 obtain⟨_,_,h3,h4,_⟩:=zm (zF hm)
 rw[zed h]
 omega
theorem zkF (g:Hp) (a:Int) (hl:g.light) (ha:a<9223372036854775808):Spec X 131 [] [g.tv,.int a] (Ret [] (.tup [.int (zbw g a),.int (za7 g a)])):=by
 refine zGO X_ok Tryz.f131 fun hb hH=>⟨rfl,?_⟩
 show ACall ..
 refine za (zbM g hl) rfl ?_
 show ABr (!zw g []) _ _
 refine⟨fun h=>?_,fun h=>?_⟩
 ·have hm:zw g []=false:=by simpa using h
  have hE:za7 g a=1:=by unfold za7;rw[hm];rfl
  rw[hE,ziZ (by rw[hE];decide)]
  show ARet ..
  exact zg rfl ⟨rfl,rfl⟩
 have hm:zw g []=true:=by simpa using h
 have hs:=zF hm
 obtain⟨_,_,hsl,_,hp1,hp2⟩:=zm hs
 have ho:¬(16<=a/\a<16+(g.w.length:Int))->za7 g a=3:=fun h=>by unfold za7;rw[hm,decide_eq_false h];rfl
 show ABr (decide (a<16)) _ _
 refine⟨fun h=>?_,fun h=>?_⟩
 ·have hE:=ho (by have:=of_decide_eq_true h;omega)
  rw[hE,ziZ (by rw[hE];decide)]
  show ABr (decide (a<16)) _ _
  rw[h]
  refine zYE (by decide) ?_
  show ARet ..
  exact zg rfl ⟨rfl,rfl⟩
 ·have h16:=of_decide_eq_false h
  have ew:IntKind.i64.wrap (a-16)=a-16:=zu (by omega) (by omega)
  show ABr (decide (IntKind.i64.wrap (a-16)>=(g.w.length:Int))) _ _
  rw[ew]
  refine⟨fun h=>?_,fun h=>?_⟩
  ·have hE:=ho (by have:=of_decide_eq_true h;omega)
   rw[hE,ziZ (by rw[hE];decide)]
   show ARet ..
   exact zg rfl ⟨rfl,rfl⟩
  ·have hin:16<=a/\a<16+(g.w.length:Int):=by have:=of_decide_eq_false h;omega
   have hE:=ze4 hm hin
   have ed:tdv (IntKind.i64.wrap (a-16)) 8=(a-16) / 8:=by rw[ew];exact zds (by omega) (by omega) (by omega)
   rw[hE,zed hE,←ed]
   show AOb ..
   refine⟨by decide,?_⟩
   show ARet ..
   exact zg rfl ⟨rfl,rfl⟩
theorem zh2 (g:Hp) (a:Int) (hl:g.light) (ha:a<9223372036854775808):Spec X 238 [] [g.tv,.int a] (Ret [] (.tup [(zaN g a).tv,.int (za7 g a)])):=by
 refine zGO X_ok Tryz.f238 fun hb hH=>⟨rfl,?_⟩
 show ACall ..
 refine za (zkF g a hl ha) rfl ?_
 show ABr (za7 g a != 0) _ _
 refine⟨fun h=>?_,fun h=>?_⟩
 ·have hE:za7 g a≠0:=by simpa using h
  rw[show zaN g a=Hp.zero from by unfold zaN;rw[decide_eq_false hE];rfl]
  show ARet ..
  exact⟨[],[],_,.cons _ _ _ _ (.agg _ _ (.cons _ _ _ _ (.nilsl .int) (.cons _ _ _ _ (.nilsl .page) (.cons _ _ _ _ (.nilsl .int) (.cons _ _ _ _ (.nilsl .int) (.cons _ _ _ _ (.nilsl .int) (.cons _ _ _ _ (.nilsl .bool) .nil))))))) (.cons _ _ _ _ .same .nil),.nil,rfl,rfl,rfl⟩
 ·have hE:za7 g a=0:=by simpa using h
  have hs:=zF (zoJ hE).1
  rw[show zaN g a=cset g (zbw g a) true from by unfold zaN;rw[hE];rfl,hE]
  show ACall ..
  refine za (zmJ g (zbw g a) true hl hs (ztd hE)) rfl ?_
  show ARet ..
  exact zg rfl ⟨rfl,rfl⟩
theorem zsd (g:Hp) (c:Int) (hl:g.light):Spec X 242 [] [g.tv,.int c] (Ret [] (.tup [(zco g c).tv,.int (zeP g c)])):=by
 refine zGO X_ok Tryz.f242 fun hb hH=>⟨rfl,?_⟩
 show ACall ..
 refine za (zbM g hl) rfl ?_
 show ABr (!zw g []) _ _
 refine⟨fun h=>?_,fun h=>?_⟩
 ·have hm:zw g []=false:=by simpa using h
  have hE:zeP g c=1:=by unfold zeP;rw[hm];rfl
  rw[show zco g c=Hp.zero from by unfold zco;rw[hE];rfl,hE]
  show ARet ..
  exact⟨[],[],_,.cons _ _ _ _ (.agg _ _ (.cons _ _ _ _ (.nilsl .int) (.cons _ _ _ _ (.nilsl .page) (.cons _ _ _ _ (.nilsl .int) (.cons _ _ _ _ (.nilsl .int) (.cons _ _ _ _ (.nilsl .int) (.cons _ _ _ _ (.nilsl .bool) .nil))))))) (.cons _ _ _ _ .same .nil),.nil,rfl,rfl,rfl⟩
 have hm:zw g []=true:=by simpa using h
 have hs:=zF hm
 have ho:¬(0<=c/\c<(g.cards.length:Int))->zeP g c=3:=fun h=>by unfold zeP;rw[hm,decide_eq_false h];rfl
 show ABr (decide (c<0)) _ _
 refine⟨fun h=>?_,fun h=>?_⟩
 ·have hE:=ho (by have:=of_decide_eq_true h;omega)
  rw[show zco g c=Hp.zero from by unfold zco;rw[hE];rfl,hE]
  show ABr (decide (c<0)) _ _
  rw[h]
  refine zYE (by decide) ?_
  show ARet ..
  exact⟨[],[],_,.cons _ _ _ _ (.agg _ _ (.cons _ _ _ _ (.nilsl .int) (.cons _ _ _ _ (.nilsl .page) (.cons _ _ _ _ (.nilsl .int) (.cons _ _ _ _ (.nilsl .int) (.cons _ _ _ _ (.nilsl .int) (.cons _ _ _ _ (.nilsl .bool) .nil))))))) (.cons _ _ _ _ .same .nil),.nil,rfl,rfl,rfl⟩
 ·have hc0:=of_decide_eq_false h
  show ABr (decide (c>=(g.cards.length:Int))) _ _
  refine⟨fun h=>?_,fun h=>?_⟩
  ·have hE:=ho (by have:=of_decide_eq_true h;omega)
   rw[show zco g c=Hp.zero from by unfold zco;rw[hE];rfl,hE]
   show ARet ..
   exact⟨[],[],_,.cons _ _ _ _ (.agg _ _ (.cons _ _ _ _ (.nilsl .int) (.cons _ _ _ _ (.nilsl .page) (.cons _ _ _ _ (.nilsl .int) (.cons _ _ _ _ (.nilsl .int) (.cons _ _ _ _ (.nilsl .int) (.cons _ _ _ _ (.nilsl .bool) .nil))))))) (.cons _ _ _ _ .same .nil),.nil,rfl,rfl,rfl⟩
  ·have hin:0<=c/\c<(g.cards.length:Int):=by have:=of_decide_eq_false h;omega
   have hE:zeP g c=0:=by unfold zeP;rw[hm,decide_eq_true hin];rfl
   rw[show zco g c=cset g c false from by unfold zco;rw[hE];rfl,hE]
   show ACall ..
   refine za (zmJ g c false hl hs hin) rfl ?_
   show ARet ..
   exact zg rfl ⟨rfl,rfl⟩
theorem zw2 (g:Hp) (a:Int) (hl:g.light) (ha:a<9223372036854775808):Spec X 92 [] [g.tv,.int a] (Ret [] (.bo (zob g a))):=by
 refine zGO X_ok Tryz.f92 fun hb hH=>⟨rfl,?_⟩
 show ACall ..
 refine za (zkF g a hl ha) rfl ?_
 have hin:(za7 g a==0)=true/\True->0<=zbw g a/\zbw g a<(g.cards.length:Int):=fun h=>ztd (by simpa using h.1)
 show AOb ((za7 g a==0)=true/\True->0<=zbw g a/\zbw g a<(g.cards.length:Int)) _
 refine⟨hin,?_⟩
 show ARet ..
 refine zo (x:=bif za7 g a==0 then g.cards.getD (zbw g a).toNat default else false) ?_ ⟨rfl,rfl⟩
 unfold zob
 by_cases h:za7 g a=0
 ·rw[h];rfl
 ·have h' : (za7 g a==0)=false:=by simp[h]
  rw[h',decide_eq_false h]
  rfl
theorem zpm (g:Hp) (c:Int) (b:Bool) (cs:List Lists):zw (cset g c b) cs=zw g cs:=by
 have hs:zD (cset g c b)=zD g:=by unfold zD cset;simp only[List.length_set]
 unfold zw
 rw[hs]
 rfl
theorem zfl (g:Hp) (c:Int) (b:Bool) (cs:List Lists):zt (cset g c b) cs=zt g cs:=by
 unfold zt
 rw[zpm]
 rfl
theorem za4 (g:Hp) (c:Int) (b:Bool) (a:Int):headE (cset g c b) a=headE g a:=by
 unfold headE
 rw[zpm]
 rfl
theorem zbP (g:Hp) (c:Int) (b:Bool) (a:Int):headH (cset g c b) a=headH g a:=by
 unfold headH
 rw[za4]
 rfl
theorem zpQ (g:Hp) (c:Int) (b:Bool):(cset g c b).cards.length=g.cards.length:=by unfold cset;simp
theorem zkL {g:Hp} {a:Int} (h:za7 g a=0):zaN g a=cset g (zbw g a) true:=by unfold zaN;rw[h];rfl
theorem zr4 {g:Hp} {c:Int} (h:zeP g c=0):zco g c=cset g c false:=by unfold zco;rw[h];rfl
def za3 (c:Col) (x:Hd):Int:=bif (bif (bif (bif x.old then !c.major else false) then true else decide (c.epoch<0)) then true else decide (c.epoch>1048576)) then 0 else (bif decide (x.mark<c.epoch) then 1 else (bif x.done then 3 else 2))
def atK (g:Hp) (c:Col) (a:Int):Int:=bif decide (headE g a=0) then za3 c (headH g a) else 0
def zlw (g:Hp) (c:Col):List Int:=(zaa g).filter fun a=>decide (atK g c a=2)
theorem zqt (c:Col) (x:Hd):Spec X 134 [] [c.tv,x.tv] (Ret [] (.int (za3 c x))):=by
 refine zGO X_ok Tryz.f134 fun hb hH=>⟨rfl,?_⟩
 unfold za3
 obtain⟨u,o,d,n,b,m⟩:=x
 show ABr ((bif o then !c.major else false)) _ _
 refine⟨fun h=>?_,fun h=>?_⟩
 ·rw[h]
  refine zYE (by decide) ?_
  show ARet ..
  exact zg rfl ⟨rfl,rfl⟩
 ·rw[h]
  show ABr ((decide (c.epoch<0))) _ _
  refine⟨fun h=>?_,fun h=>?_⟩
  ·rw[h]
   refine zYE (by decide) ?_
   show ARet ..
   exact zg rfl ⟨rfl,rfl⟩
  ·rw[h]
   show ABr ((decide (c.epoch>1048576))) _ _
   refine⟨fun h=>?_,fun h=>?_⟩
   ·rw[h]
    show ARet ..
    exact zg rfl ⟨rfl,rfl⟩
   ·rw[h]
    show ABr ((decide (m<c.epoch))) _ _
    refine⟨fun h=>?_,fun h=>?_⟩
    ·rw[h]
     show ARet ..
     exact zg rfl ⟨rfl,rfl⟩
    ·rw[h]
     show ABr (d) _ _
     refine⟨fun h=>?_,fun h=>?_⟩
     ·rw[h]
      show ARet ..
      exact zg rfl ⟨rfl,rfl⟩
     ·rw[h]
      show ARet ..
      exact zg rfl ⟨rfl,rfl⟩
theorem zsP (g:Hp) (c:Col) (a:Int) (hl:g.light):Spec X 96 [] [g.tv,c.tv,.int a] (Ret [] (.tup [(headH g a).tv,.int (atK g c a)])):=by
 refine zGO X_ok Tryz.f96 fun hb hH=>⟨rfl,?_⟩
 show ACall ..
 refine za (zaI g a hl) rfl ?_
 show ABr (headE g a != 0) _ _
 refine⟨fun h=>?_,fun h=>?_⟩
 ·have hE:headE g a≠0:=by simpa using h
  rw[show atK g c a=0 from by unfold atK;rw[decide_eq_false hE];rfl]
  show ARet ..
  exact zg rfl ⟨rfl,rfl⟩
 ·have hE:headE g a=0:=by simpa using h
  rw[show atK g c a=za3 c (headH g a) from by unfold atK;rw[decide_eq_true hE];rfl]
  show ADCall ..
  refine .mk _ _ (zqt c (headH g a)) rfl ?_
  show ARet ..
  exact zg rfl ⟨rfl,rfl⟩
theorem zhQ (l:List Int) (h:l.length<=zi):Spec X 63 [] [.c (.d (.sl .int l))] (Ret [(0,.data .int l)] (.c (.own 0))):=by
 refine zGO X_ok Tryz.f63 fun hb _=>⟨rfl,?_⟩
 intro b (hnil:b=true->l=[])
 show ABr ..
 refine⟨fun hb=>?_,fun hb=>?_⟩
 ·have hl:=hnil hb
  subst hl
  show ARet ..
  exact⟨[],[(0,.data .int [])],[.c (.own 0)],.cons _ _ _ _ (.c _ _ (.nilown 0 .int rfl rfl)) .nil,.new 0 .int _ rfl .nil,rfl,rfl,rfl⟩
 show AOb (0+l.length<=zi) _
 refine⟨by omega,?_⟩
 show ARet ..
 exact⟨[(_,0)],[(0,.data .int l)],[.c (.own 0)],.cons _ _ _ _ (.c _ _ (.own1 _ _)) .nil,.old 0 _ _ _ _ rfl rfl (.data_eq rfl) .nil,rfl,rfl,rfl⟩
def Col.own (c:Col):TV:=.agg [.d (DV.int c.phase),.d (DV.int c.epoch),.d (DV.bo c.major),.own 0,.d (DV.bo c.over),.d (DV.int c.at_),.d (DV.int c.field_),.d (DV.int c.seek),.d (DV.int c.card),.d (DV.bo c.met)]
theorem ztC (c:Col) (h:c.work.length<=zi):Spec X 185 [] [c.tv] (Ret [(0,.data .int c.work)] c.own):=by
 refine zGO X_ok Tryz.f185 fun hb hH=>⟨rfl,?_⟩
 show ACall ..
 refine .mk _ (zhQ c.work h) fun H r hq _ _=>?_
 obtain⟨rfl,rfl⟩:=hq
 refine⟨.inl rfl,?_⟩
 show ARet ..
 exact⟨[(_,0)],[(0,.data .int c.work)],[c.own],.cons _ _ _ _ (.agg _ _ (.cons _ _ _ _ (.d _) (.cons _ _ _ _ (.d _) (.cons _ _ _ _ (.d _) (.cons _ _ _ _ (.own1 _ _) (.cons _ _ _ _ (.d _) (.cons _ _ _ _ (.d _) (.cons _ _ _ _ (.d _) (.cons _ _ _ _ (.d _) (.cons _ _ _ _ (.d _) (.cons _ _ _ _ (.d _) .nil))))))))))) .nil,.old 0 _ _ _ _ rfl rfl (.data_eq rfl) .nil,rfl,rfl,rfl⟩
def Hp.small (g:Hp):Prop:=g.w.length<=zi/\g.pages.length<=zi/\g.cards.length<=zi/\g.free.l0.length<=zi/\g.free.l1.length<=zi/\g.free.l2.length<=zi
theorem zjX (g:Hp) (hs:g.small):Spec X 186 [] [g.tv] (Ret [] g.tv):=by
 refine zGO X_ok Tryz.f186 fun hb hH=>⟨rfl,?_⟩
 obtain⟨h1,h2,h3,h4,h5,h6⟩:=hs
 show ADCall ..
 refine .mk _ _ (zd g.w h1) rfl ?_
 show ADCall ..
 refine .mk _ _ (zab g.pages h2) rfl ?_
 show ADCall ..
 refine .mk _ _ (zae g.cards h3) rfl ?_
 show ∃n,_
 refine⟨4,?_⟩
 show ALoop ..
 refine .next ?_
 refine zYE (by decide) ?_
 show AOb ..
 refine⟨by decide,?_⟩
 show ACall ..
 refine za (zd g.free.l0 h4) rfl ?_
 show AOb ..
 refine⟨by decide,?_⟩
 show ALoop ..
 refine .next ?_
 refine zYE (by decide) ?_
 show AOb ..
 refine⟨by decide,?_⟩
 show ACall ..
 refine za (zd g.free.l1 h5) rfl ?_
 show AOb ..
 refine⟨by decide,?_⟩
 show ALoop ..
 refine .next ?_
 refine zYE (by decide) ?_
 show AOb ..
 refine⟨by decide,?_⟩
 show ACall ..
 refine za (zd g.free.l2 h6) rfl ?_
 show AOb ..
 refine⟨by decide,?_⟩
 show ALoop ..
 refine .next ?_
 refine zNO (by decide) ?_
 show ARet ..
 exact zg rfl ⟨rfl,rfl⟩
def zhi (g:Hp) (c:Col) (a:Int):Hd:={headH g a with mark:=c.epoch,done:=false}
def zJ (g:Hp) (c:Col) (a:Int):Hp:=bif decide (atK g c a=1) then zhM g a (zhi g c a) else g
def zE (g:Hp) (c:Col) (a:Int):Col:=bif decide (atK g c a=1) then (bif decide ((c.work.length:Int)<4) then {c with work:=c.work++[a]} else {c with over:=true}) else c
def zhc (g:Hp) (a:Int):Hd:={headH g a with done:=true}
def zan (g:Hp) (c:Col) (a:Int):Hp:=bif decide (atK g c a=2) then zhM g a (zhc g a) else g
theorem zcn (g:Hp) (c:Col) (a:Int) (hl:g.light) (hs:g.small) (hw:c.work.length<zi):Spec X 145 [] [g.tv,c.tv,.int a] (Ret [] (.tup [(zJ g c a).tv,(zE g c a).tv])):=by
 refine zGO X_ok Tryz.f145 fun hb hH=>⟨rfl,?_⟩
 show ACall ..
 refine za (zsP g c a hl) rfl ?_
 show ACall ..
 refine .mk _ (ztC c (by omega)) fun H r hq _ _=>?_
 obtain⟨rfl,rfl⟩:=hq
 refine⟨.inl rfl,?_⟩
 show ABr (atK g c a != 1) _ _
 refine⟨fun h=>?_,fun h=>?_⟩
 ·have hk:atK g c a≠1:=by simpa using h
  have e1:zJ g c a=g:=by unfold zJ;rw[decide_eq_false hk];rfl
  have e2:zE g c a=c:=by unfold zE;rw[decide_eq_false hk];rfl
  rw[e1,e2]
  show ADCall ..
  refine .mk _ _ (zjX g hs) rfl ?_
  show ARet ..
  exact⟨[],[],_,.cons _ _ _ _ (.agg _ _ (.cons _ _ _ _ (.d _) (.cons _ _ _ _ (.d _) (.cons _ _ _ _ (.d _) (.cons _ _ _ _ (.d _) (.cons _ _ _ _ (.d _) (.cons _ _ _ _ (.d _) .nil))))))) (.cons _ _ _ _ (.agg _ _ (.cons _ _ _ _ (.d _) (.cons _ _ _ _ (.d _) (.cons _ _ _ _ (.d _) (.cons _ _ _ _ (.frz_eq (k:=.int) (l:=c.work) rfl rfl) (.cons _ _ _ _ (.d _) (.cons _ _ _ _ (.d _) (.cons _ _ _ _ (.d _) (.cons _ _ _ _ (.d _) (.cons _ _ _ _ (.d _) (.cons _ _ _ _ (.d _) .nil))))))))))) .nil),.nil,rfl,rfl,rfl⟩
 ·have hk:atK g c a=1:=by simpa using h
  have e1:zJ g c a=zhM g a (zhi g c a):=by unfold zJ;rw[decide_eq_true hk];rfl
  have e2:zE g c a=(bif decide ((c.work.length:Int)<4) then {c with work:=c.work++[a]} else {c with over:=true}):=by unfold zE;rw[decide_eq_true hk];rfl
  rw[e1,e2]
  show ACall ..
  refine za (zjk g a (zhi g c a) hl) rfl ?_
  show ABr (decide ((c.work.length:Int)<4)) _ _
  refine⟨fun h=>?_,fun h=>?_⟩
  ·rw[h]
   show AOb (c.work.length+1<=zi) _
   refine⟨by omega,?_⟩
   show ARet ..
   exact⟨[],[],_,.cons _ _ _ _ (.agg _ _ (.cons _ _ _ _ (.d _) (.cons _ _ _ _ (.d _) (.cons _ _ _ _ (.d _) (.cons _ _ _ _ (.d _) (.cons _ _ _ _ (.d _) (.cons _ _ _ _ (.d _) .nil))))))) (.cons _ _ _ _ (.agg _ _ (.cons _ _ _ _ (.d _) (.cons _ _ _ _ (.d _) (.cons _ _ _ _ (.d _) (.cons _ _ _ _ (.frz_eq (k:=.int) (l:=c.work++[a]) rfl rfl) (.cons _ _ _ _ (.d _) (.cons _ _ _ _ (.d _) (.cons _ _ _ _ (.d _) (.cons _ _ _ _ (.d _) (.cons _ _ _ _ (.d _) (.cons _ _ _ _ (.d _) .nil))))))))))) .nil),.nil,rfl,rfl,rfl⟩
  ·rw[h]
   show ARet ..
   exact⟨[],[],_,.cons _ _ _ _ (.agg _ _ (.cons _ _ _ _ (.d _) (.cons _ _ _ _ (.d _) (.cons _ _ _ _ (.d _) (.cons _ _ _ _ (.d _) (.cons _ _ _ _ (.d _) (.cons _ _ _ _ (.d _) .nil))))))) (.cons _ _ _ _ (.agg _ _ (.cons _ _ _ _ (.d _) (.cons _ _ _ _ (.d _) (.cons _ _ _ _ (.d _) (.cons _ _ _ _ (.frz_eq (k:=.int) (l:=c.work) rfl rfl) (.cons _ _ _ _ (.d _) (.cons _ _ _ _ (.d _) (.cons _ _ _ _ (.d _) (.cons _ _ _ _ (.d _) (.cons _ _ _ _ (.d _) (.cons _ _ _ _ (.d _) .nil))))))))))) .nil),.nil,rfl,rfl,rfl⟩
theorem ziv (g:Hp) (c:Col) (a:Int) (hl:g.light) (hs:g.small):Spec X 246 [] [g.tv,c.tv,.int a] (Ret [] (.tup [(zan g c a).tv,.bo (decide (atK g c a=2))])):=by
 refine zGO X_ok Tryz.f246 fun hb hH=>⟨rfl,?_⟩
 show ACall ..
 refine za (zsP g c a hl) rfl ?_
 show ABr (atK g c a != 2) _ _
 refine⟨fun h=>?_,fun h=>?_⟩
 ·have hk:atK g c a≠2:=by simpa using h
  have e1:zan g c a=g:=by unfold zan;rw[decide_eq_false hk];rfl
  rw[e1,decide_eq_false hk]
  show ACall ..
  refine za (zjX g hs) rfl ?_
  show ARet ..
  exact zg rfl ⟨rfl,rfl⟩
 ·have hk:atK g c a=2:=by simpa using h
  have e1:zan g c a=zhM g a (zhc g a):=by unfold zan;rw[decide_eq_true hk];rfl
  rw[e1,decide_eq_true hk]
  show ACall ..
  refine za (zjk g a (zhc g a) hl) rfl ?_
  show ARet ..
  exact zg rfl ⟨rfl,rfl⟩
def inP (low high a:Int):Bool:=decide (a>=low)&&decide (a<high)
def zcx (a:List Int) (low high:Int) (i:Nat):List Int:=(a.take i).filter (inP low high)
def zbj (a:List Int) (low high:Int) (i:Nat):List Int:=(a.take i).filter fun x=>!inP low high x
theorem zhF (a:List Int) (low high:Int) (i:Nat) (h:i<a.length):zcx a low high (i+1)=if inP low high (at0 a i) then zcx a low high i++[at0 a i] else zcx a low high i:=by
 unfold zcx
 rw[List.take_add_one,List.getElem?_eq_getElem h,List.filter_append,zch h]
 cases hp:inP low high a[i]<;>simp[hp]
theorem zgh (a:List Int) (low high:Int) (i:Nat) (h:i<a.length):zbj a low high (i+1)=if inP low high (at0 a i) then zbj a low high i else zbj a low high i++[at0 a i]:=by
 unfold zbj
 rw[List.take_add_one,List.getElem?_eq_getElem h,List.filter_append,zch h]
 cases hp:inP low high a[i]<;>simp[hp]
theorem zi5 (a:List Int) (low high:Int) (i:Nat):(zcx a low high i).length<=i:=Nat.le_trans (List.length_filter_le _ _) (by simp;omega)
theorem zhK (a:List Int) (low high:Int) (i:Nat):(zbj a low high i).length<=i:=Nat.le_trans (List.length_filter_le _ _) (by simp;omega)
theorem zum (l:Lists) (c low high:Int) (h:0<=c/\c<=2) (hok:l.ok):Spec X 263 [] [l.tv,.int c,.int low,.int high]
  (Ret [] (.tup [(l.set_ c (zbj (l.at_ c) low high (l.at_ c).length)).tv,.c (.d (.sl .int (zcx (l.at_ c) low high (l.at_ c).length))),.int 0])):=by
 refine zGO X_ok Tryz.f263 fun _ _=>⟨rfl,?_⟩
 have hc:c=0\/c=1\/c=2:=by omega
 rcases hc with rfl|rfl|rfl
 ·have hm:l.l0.length<=68719476736:=hok.1
  show ACall ..
  refine za (zcj 0) rfl ?_
  show ABr ..
  refine⟨fun hb=>absurd hb (by decide),fun _=>?_⟩
  show ACall ..
  refine .mk _ (zaH l hok) ?_
  rintro H r ⟨rfl,rfl⟩ _ _
  refine⟨.inl rfl,?_⟩
  show AOb ((0:Int)<=0/\(0:Int)<3) _
  refine⟨by decide,?_⟩
  show ∃n,_
  refine⟨0,ALoop.inv (ι:={i:Nat // i<=l.l0.length}) (fun i=>⟨[(1,.int 0),(2,.int low),(3,.int high),(4,.c (.ptr 0 0 0)),(8,.c (.ptr 1 0 0)),(11,.c (.own 5)),(12,.c (.own 6)),(23,.c (.own 2)),(24,.int l.l0.length),(25,.int i.1)],[(0,.vars [.own 2,.own 3,.own 4]),(1,.vars [.d .nilsl,.d .nilsl,.d .nilsl]),(2,.data .int l.l0),(3,.data .int l.l1),(4,.data .int l.l2),(5,.data .int (zcx l.l0 low high i.1)),(6,.data .int (zbj l.l0 low high i.1))],32⟩) (fun i=>l.l0.length-i.1) ⟨0,Nat.zero_le _⟩ ?_ ?_⟩
  ·exact⟨[(32,0),(64,1),(288,2),(289,3),(290,4)],.cons _ _ _ .same (.cons _ _ _ .same (.cons _ _ _ .same (.cons _ _ _ (.c _ _ (.ptr _ _ _ _ rfl)) (.cons _ _ _ (.c _ _ (.ptr _ _ _ _ rfl)) (.cons _ _ _ (.c _ _ (.nilown 5 .int rfl rfl)) (.cons _ _ _ (.c _ _ (.nilown 6 .int rfl rfl)) (.cons _ _ _ (.c _ _ (.own _ _ rfl)) (.cons _ _ _ .same (.cons _ _ _ .same .nil))))))))),.old 0 32 _ _ _ rfl rfl (.vars _ _ (.cons _ _ _ _ (.own _ _ rfl) (.cons _ _ _ _ (.own _ _ rfl) (.cons _ _ _ _ (.own _ _ rfl) .nil)))) (.old 1 64 _ _ _ rfl rfl (.vars _ _ (zb rfl)) (.old 2 288 _ _ _ rfl rfl (.data_eq rfl) (.old 3 289 _ _ _ rfl rfl (.data_eq rfl) (.old 4 290 _ _ _ rfl rfl (.data_eq rfl) (.new 5 .int _ rfl (.new 6 .int _ rfl .nil)))))),rfl⟩
  ·rintro⟨i,hi⟩
   have ho:=zi5 l.l0 low high i
   have hs:=zhK l.l0 low high i
   show ABr (decide ((i:Int)<(l.l0.length:Int))) _ _
   refine⟨fun h2=>?_,fun h2=>?_⟩
   ·have hlt:i<l.l0.length:=by simpa using h2
    have e1:=zhF l.l0 low high i hlt
    have e2:=zgh l.l0 low high i hlt
    show AOb ((0:Int)<=(i:Int)/\(i:Int)<(l.l0.length:Int)) _
    refine⟨by omega,?_⟩
    show AOb ((i:Int).toNat<l.l0.length) _
    refine⟨by omega,?_⟩
    show ABr (cond (decide (at0 l.l0 i>=low)) (decide (at0 l.l0 i<high)) false) _ _
    refine⟨fun h3=>?_,fun h3=>?_⟩
    ·have hp:inP low high (at0 l.l0 i)=true:=by unfold inP;simpa using h3
     rw[if_pos hp]at e1 e2
     show AOb ((zcx l.l0 low high i).length+1<=zi) _
     refine⟨by unfold zi;omega,?_⟩
     show ARound ..
     refine⟨⟨i+1,hlt⟩,Nat.sub_lt_sub_left hlt (Nat.lt_succ_self i),[(_,5),(0,0),(1,1),(2,2),(3,3),(4,4),(6,6)],.cons _ _ _ .same (.cons _ _ _ .same (.cons _ _ _ .same (.cons _ _ _ (.c _ _ (.ptr _ _ _ _ rfl)) (.cons _ _ _ (.c _ _ (.ptr _ _ _ _ rfl)) (.cons _ _ _ (.c _ _ (.own1 _ _)) (.cons _ _ _ (.c _ _ (.own _ _ rfl)) (.cons _ _ _ (.c _ _ (.own _ _ rfl)) (.cons _ _ _ .same (.cons _ _ _ (.int_eq (zP (i:=i) (by unfold zA;omega))) .nil))))))))),.old 0 0 _ _ _ rfl rfl (.vars _ _ (.cons _ _ _ _ (.own _ _ rfl) (.cons _ _ _ _ (.own _ _ rfl) (.cons _ _ _ _ (.own _ _ rfl) .nil)))) (.old 1 1 _ _ _ rfl rfl (.vars _ _ (zb rfl)) (.old 2 2 _ _ _ rfl rfl (.data_eq rfl) (.old 3 3 _ _ _ rfl rfl (.data_eq rfl) (.old 4 4 _ _ _ rfl rfl (.data_eq rfl) (.old 5 _ _ _ _ rfl rfl (.data_eq ?_) (.old 6 6 _ _ _ rfl rfl (.data_eq ?_) .nil)))))),rfl⟩
     ·exact e1.symm
     ·exact e2.symm
    ·have hp:¬inP low high (at0 l.l0 i)=true:=by unfold inP;simpa using h3
     rw[if_neg hp]at e1 e2
     show AOb ((zbj l.l0 low high i).length+1<=zi) _
     refine⟨by unfold zi;omega,?_⟩
     show ARound ..
     refine⟨⟨i+1,hlt⟩,Nat.sub_lt_sub_left hlt (Nat.lt_succ_self i),[(_,6),(0,0),(1,1),(2,2),(3,3),(4,4),(5,5)],.cons _ _ _ .same (.cons _ _ _ .same (.cons _ _ _ .same (.cons _ _ _ (.c _ _ (.ptr _ _ _ _ rfl)) (.cons _ _ _ (.c _ _ (.ptr _ _ _ _ rfl)) (.cons _ _ _ (.c _ _ (.own _ _ rfl)) (.cons _ _ _ (.c _ _ (.own1 _ _)) (.cons _ _ _ (.c _ _ (.own _ _ rfl)) (.cons _ _ _ .same (.cons _ _ _ (.int_eq (zP (i:=i) (by unfold zA;omega))) .nil))))))))),.old 0 0 _ _ _ rfl rfl (.vars _ _ (.cons _ _ _ _ (.own _ _ rfl) (.cons _ _ _ _ (.own _ _ rfl) (.cons _ _ _ _ (.own _ _ rfl) .nil)))) (.old 1 1 _ _ _ rfl rfl (.vars _ _ (zb rfl)) (.old 2 2 _ _ _ rfl rfl (.data_eq rfl) (.old 3 3 _ _ _ rfl rfl (.data_eq rfl) (.old 4 4 _ _ _ rfl rfl (.data_eq rfl) (.old 5 5 _ _ _ rfl rfl (.data_eq ?_) (.old 6 _ _ _ _ rfl rfl (.data_eq ?_) .nil)))))),rfl⟩
     ·exact e1.symm
     ·exact e2.symm
   ·have hge:i=l.l0.length:=by simp at h2;omega
    show AOb ((0:Int)<=0/\(0:Int)<3) _
    refine⟨by decide,?_⟩
    show ARet ..
    refine⟨[],[],[(l.set_ 0 (zbj (l.at_ 0) low high (l.at_ 0).length)).tv,.c (.d (.sl .int (zcx (l.at_ 0) low high (l.at_ 0).length))),.int 0],.cons _ _ _ _ (.agg _ _ (.cons _ _ _ _ (.frz_eq rfl ?_) (.cons _ _ _ _ (.frz _ _ rfl) (.cons _ _ _ _ (.frz _ _ rfl) .nil)))) (.cons _ _ _ _ (.frz rfl ?_) (.cons _ _ _ _ .same .nil)),.nil,rfl,rfl,rfl⟩
    ·show zbj l.l0 low high i=_
     rw[hge];rfl
    ·show zcx l.l0 low high i=_
     rw[hge];rfl
 ·have hm:l.l1.length<=68719476736:=hok.2.1
  show ACall ..
  refine za (zcj 1) rfl ?_
  show ABr ..
  refine⟨fun hb=>absurd hb (by decide),fun _=>?_⟩
  show ACall ..
  refine .mk _ (zaH l hok) ?_
  rintro H r ⟨rfl,rfl⟩ _ _
  refine⟨.inl rfl,?_⟩
  show AOb ((0:Int)<=1/\(1:Int)<3) _
  refine⟨by decide,?_⟩
  show ∃n,_
  refine⟨0,ALoop.inv (ι:={i:Nat // i<=l.l1.length}) (fun i=>⟨[(1,.int 1),(2,.int low),(3,.int high),(4,.c (.ptr 0 0 0)),(8,.c (.ptr 1 0 0)),(11,.c (.own 5)),(12,.c (.own 6)),(23,.c (.own 3)),(24,.int l.l1.length),(25,.int i.1)],[(0,.vars [.own 2,.own 3,.own 4]),(1,.vars [.d .nilsl,.d .nilsl,.d .nilsl]),(2,.data .int l.l0),(3,.data .int l.l1),(4,.data .int l.l2),(5,.data .int (zcx l.l1 low high i.1)),(6,.data .int (zbj l.l1 low high i.1))],32⟩) (fun i=>l.l1.length-i.1) ⟨0,Nat.zero_le _⟩ ?_ ?_⟩
  ·exact⟨[(32,0),(64,1),(288,2),(289,3),(290,4)],.cons _ _ _ .same (.cons _ _ _ .same (.cons _ _ _ .same (.cons _ _ _ (.c _ _ (.ptr _ _ _ _ rfl)) (.cons _ _ _ (.c _ _ (.ptr _ _ _ _ rfl)) (.cons _ _ _ (.c _ _ (.nilown 5 .int rfl rfl)) (.cons _ _ _ (.c _ _ (.nilown 6 .int rfl rfl)) (.cons _ _ _ (.c _ _ (.own _ _ rfl)) (.cons _ _ _ .same (.cons _ _ _ .same .nil))))))))),.old 0 32 _ _ _ rfl rfl (.vars _ _ (.cons _ _ _ _ (.own _ _ rfl) (.cons _ _ _ _ (.own _ _ rfl) (.cons _ _ _ _ (.own _ _ rfl) .nil)))) (.old 1 64 _ _ _ rfl rfl (.vars _ _ (zb rfl)) (.old 2 288 _ _ _ rfl rfl (.data_eq rfl) (.old 3 289 _ _ _ rfl rfl (.data_eq rfl) (.old 4 290 _ _ _ rfl rfl (.data_eq rfl) (.new 5 .int _ rfl (.new 6 .int _ rfl .nil)))))),rfl⟩
  ·rintro⟨i,hi⟩
   have ho:=zi5 l.l1 low high i
   have hs:=zhK l.l1 low high i
   show ABr (decide ((i:Int)<(l.l1.length:Int))) _ _
   refine⟨fun h2=>?_,fun h2=>?_⟩
   ·have hlt:i<l.l1.length:=by simpa using h2
    have e1:=zhF l.l1 low high i hlt
    have e2:=zgh l.l1 low high i hlt
    show AOb ((0:Int)<=(i:Int)/\(i:Int)<(l.l1.length:Int)) _
    refine⟨by omega,?_⟩
    show AOb ((i:Int).toNat<l.l1.length) _
    refine⟨by omega,?_⟩
    show ABr (cond (decide (at0 l.l1 i>=low)) (decide (at0 l.l1 i<high)) false) _ _
    refine⟨fun h3=>?_,fun h3=>?_⟩
    ·have hp:inP low high (at0 l.l1 i)=true:=by unfold inP;simpa using h3
     rw[if_pos hp]at e1 e2
     show AOb ((zcx l.l1 low high i).length+1<=zi) _
     refine⟨by unfold zi;omega,?_⟩
     show ARound ..
     refine⟨⟨i+1,hlt⟩,Nat.sub_lt_sub_left hlt (Nat.lt_succ_self i),[(_,5),(0,0),(1,1),(2,2),(3,3),(4,4),(6,6)],.cons _ _ _ .same (.cons _ _ _ .same (.cons _ _ _ .same (.cons _ _ _ (.c _ _ (.ptr _ _ _ _ rfl)) (.cons _ _ _ (.c _ _ (.ptr _ _ _ _ rfl)) (.cons _ _ _ (.c _ _ (.own1 _ _)) (.cons _ _ _ (.c _ _ (.own _ _ rfl)) (.cons _ _ _ (.c _ _ (.own _ _ rfl)) (.cons _ _ _ .same (.cons _ _ _ (.int_eq (zP (i:=i) (by unfold zA;omega))) .nil))))))))),.old 0 0 _ _ _ rfl rfl (.vars _ _ (.cons _ _ _ _ (.own _ _ rfl) (.cons _ _ _ _ (.own _ _ rfl) (.cons _ _ _ _ (.own _ _ rfl) .nil)))) (.old 1 1 _ _ _ rfl rfl (.vars _ _ (zb rfl)) (.old 2 2 _ _ _ rfl rfl (.data_eq rfl) (.old 3 3 _ _ _ rfl rfl (.data_eq rfl) (.old 4 4 _ _ _ rfl rfl (.data_eq rfl) (.old 5 _ _ _ _ rfl rfl (.data_eq ?_) (.old 6 6 _ _ _ rfl rfl (.data_eq ?_) .nil)))))),rfl⟩
     ·exact e1.symm
     ·exact e2.symm
    ·have hp:¬inP low high (at0 l.l1 i)=true:=by unfold inP;simpa using h3
     rw[if_neg hp]at e1 e2
     show AOb ((zbj l.l1 low high i).length+1<=zi) _
     refine⟨by unfold zi;omega,?_⟩
     show ARound ..
     refine⟨⟨i+1,hlt⟩,Nat.sub_lt_sub_left hlt (Nat.lt_succ_self i),[(_,6),(0,0),(1,1),(2,2),(3,3),(4,4),(5,5)],.cons _ _ _ .same (.cons _ _ _ .same (.cons _ _ _ .same (.cons _ _ _ (.c _ _ (.ptr _ _ _ _ rfl)) (.cons _ _ _ (.c _ _ (.ptr _ _ _ _ rfl)) (.cons _ _ _ (.c _ _ (.own _ _ rfl)) (.cons _ _ _ (.c _ _ (.own1 _ _)) (.cons _ _ _ (.c _ _ (.own _ _ rfl)) (.cons _ _ _ .same (.cons _ _ _ (.int_eq (zP (i:=i) (by unfold zA;omega))) .nil))))))))),.old 0 0 _ _ _ rfl rfl (.vars _ _ (.cons _ _ _ _ (.own _ _ rfl) (.cons _ _ _ _ (.own _ _ rfl) (.cons _ _ _ _ (.own _ _ rfl) .nil)))) (.old 1 1 _ _ _ rfl rfl (.vars _ _ (zb rfl)) (.old 2 2 _ _ _ rfl rfl (.data_eq rfl) (.old 3 3 _ _ _ rfl rfl (.data_eq rfl) (.old 4 4 _ _ _ rfl rfl (.data_eq rfl) (.old 5 5 _ _ _ rfl rfl (.data_eq ?_) (.old 6 _ _ _ _ rfl rfl (.data_eq ?_) .nil)))))),rfl⟩
     ·exact e1.symm
     ·exact e2.symm
   ·have hge:i=l.l1.length:=by simp at h2;omega
    show AOb ((0:Int)<=1/\(1:Int)<3) _
    refine⟨by decide,?_⟩
    show ARet ..
    refine⟨[],[],[(l.set_ 1 (zbj (l.at_ 1) low high (l.at_ 1).length)).tv,.c (.d (.sl .int (zcx (l.at_ 1) low high (l.at_ 1).length))),.int 0],.cons _ _ _ _ (.agg _ _ (.cons _ _ _ _ (.frz _ _ rfl) (.cons _ _ _ _ (.frz_eq rfl ?_) (.cons _ _ _ _ (.frz _ _ rfl) .nil)))) (.cons _ _ _ _ (.frz rfl ?_) (.cons _ _ _ _ .same .nil)),.nil,rfl,rfl,rfl⟩
    ·show zbj l.l1 low high i=_
     rw[hge];rfl
    ·show zcx l.l1 low high i=_
     rw[hge];rfl
 ·have hm:l.l2.length<=68719476736:=hok.2.2
  show ACall ..
  refine za (zcj 2) rfl ?_
  show ABr ..
  refine⟨fun hb=>absurd hb (by decide),fun _=>?_⟩
  show ACall ..
  refine .mk _ (zaH l hok) ?_
  rintro H r ⟨rfl,rfl⟩ _ _
  refine⟨.inl rfl,?_⟩
  show AOb ((0:Int)<=2/\(2:Int)<3) _
  refine⟨by decide,?_⟩
  show ∃n,_
  refine⟨0,ALoop.inv (ι:={i:Nat // i<=l.l2.length}) (fun i=>⟨[(1,.int 2),(2,.int low),(3,.int high),(4,.c (.ptr 0 0 0)),(8,.c (.ptr 1 0 0)),(11,.c (.own 5)),(12,.c (.own 6)),(23,.c (.own 4)),(24,.int l.l2.length),(25,.int i.1)],[(0,.vars [.own 2,.own 3,.own 4]),(1,.vars [.d .nilsl,.d .nilsl,.d .nilsl]),(2,.data .int l.l0),(3,.data .int l.l1),(4,.data .int l.l2),(5,.data .int (zcx l.l2 low high i.1)),(6,.data .int (zbj l.l2 low high i.1))],32⟩) (fun i=>l.l2.length-i.1) ⟨0,Nat.zero_le _⟩ ?_ ?_⟩
  ·exact⟨[(32,0),(64,1),(288,2),(289,3),(290,4)],.cons _ _ _ .same (.cons _ _ _ .same (.cons _ _ _ .same (.cons _ _ _ (.c _ _ (.ptr _ _ _ _ rfl)) (.cons _ _ _ (.c _ _ (.ptr _ _ _ _ rfl)) (.cons _ _ _ (.c _ _ (.nilown 5 .int rfl rfl)) (.cons _ _ _ (.c _ _ (.nilown 6 .int rfl rfl)) (.cons _ _ _ (.c _ _ (.own _ _ rfl)) (.cons _ _ _ .same (.cons _ _ _ .same .nil))))))))),.old 0 32 _ _ _ rfl rfl (.vars _ _ (.cons _ _ _ _ (.own _ _ rfl) (.cons _ _ _ _ (.own _ _ rfl) (.cons _ _ _ _ (.own _ _ rfl) .nil)))) (.old 1 64 _ _ _ rfl rfl (.vars _ _ (zb rfl)) (.old 2 288 _ _ _ rfl rfl (.data_eq rfl) (.old 3 289 _ _ _ rfl rfl (.data_eq rfl) (.old 4 290 _ _ _ rfl rfl (.data_eq rfl) (.new 5 .int _ rfl (.new 6 .int _ rfl .nil)))))),rfl⟩
  ·rintro⟨i,hi⟩
   have ho:=zi5 l.l2 low high i
   have hs:=zhK l.l2 low high i
   show ABr (decide ((i:Int)<(l.l2.length:Int))) _ _
   refine⟨fun h2=>?_,fun h2=>?_⟩
   ·have hlt:i<l.l2.length:=by simpa using h2
    have e1:=zhF l.l2 low high i hlt
    have e2:=zgh l.l2 low high i hlt
    show AOb ((0:Int)<=(i:Int)/\(i:Int)<(l.l2.length:Int)) _
    refine⟨by omega,?_⟩
    show AOb ((i:Int).toNat<l.l2.length) _
    refine⟨by omega,?_⟩
    show ABr (cond (decide (at0 l.l2 i>=low)) (decide (at0 l.l2 i<high)) false) _ _
    refine⟨fun h3=>?_,fun h3=>?_⟩
    ·have hp:inP low high (at0 l.l2 i)=true:=by unfold inP;simpa using h3
     rw[if_pos hp]at e1 e2
     show AOb ((zcx l.l2 low high i).length+1<=zi) _
     refine⟨by unfold zi;omega,?_⟩
     show ARound ..
     refine⟨⟨i+1,hlt⟩,Nat.sub_lt_sub_left hlt (Nat.lt_succ_self i),[(_,5),(0,0),(1,1),(2,2),(3,3),(4,4),(6,6)],.cons _ _ _ .same (.cons _ _ _ .same (.cons _ _ _ .same (.cons _ _ _ (.c _ _ (.ptr _ _ _ _ rfl)) (.cons _ _ _ (.c _ _ (.ptr _ _ _ _ rfl)) (.cons _ _ _ (.c _ _ (.own1 _ _)) (.cons _ _ _ (.c _ _ (.own _ _ rfl)) (.cons _ _ _ (.c _ _ (.own _ _ rfl)) (.cons _ _ _ .same (.cons _ _ _ (.int_eq (zP (i:=i) (by unfold zA;omega))) .nil))))))))),.old 0 0 _ _ _ rfl rfl (.vars _ _ (.cons _ _ _ _ (.own _ _ rfl) (.cons _ _ _ _ (.own _ _ rfl) (.cons _ _ _ _ (.own _ _ rfl) .nil)))) (.old 1 1 _ _ _ rfl rfl (.vars _ _ (zb rfl)) (.old 2 2 _ _ _ rfl rfl (.data_eq rfl) (.old 3 3 _ _ _ rfl rfl (.data_eq rfl) (.old 4 4 _ _ _ rfl rfl (.data_eq rfl) (.old 5 _ _ _ _ rfl rfl (.data_eq ?_) (.old 6 6 _ _ _ rfl rfl (.data_eq ?_) .nil)))))),rfl⟩
     ·exact e1.symm
     ·exact e2.symm
    ·have hp:¬inP low high (at0 l.l2 i)=true:=by unfold inP;simpa using h3
     rw[if_neg hp]at e1 e2
     show AOb ((zbj l.l2 low high i).length+1<=zi) _
     refine⟨by unfold zi;omega,?_⟩
     show ARound ..
     refine⟨⟨i+1,hlt⟩,Nat.sub_lt_sub_left hlt (Nat.lt_succ_self i),[(_,6),(0,0),(1,1),(2,2),(3,3),(4,4),(5,5)],.cons _ _ _ .same (.cons _ _ _ .same (.cons _ _ _ .same (.cons _ _ _ (.c _ _ (.ptr _ _ _ _ rfl)) (.cons _ _ _ (.c _ _ (.ptr _ _ _ _ rfl)) (.cons _ _ _ (.c _ _ (.own _ _ rfl)) (.cons _ _ _ (.c _ _ (.own1 _ _)) (.cons _ _ _ (.c _ _ (.own _ _ rfl)) (.cons _ _ _ .same (.cons _ _ _ (.int_eq (zP (i:=i) (by unfold zA;omega))) .nil))))))))),.old 0 0 _ _ _ rfl rfl (.vars _ _ (.cons _ _ _ _ (.own _ _ rfl) (.cons _ _ _ _ (.own _ _ rfl) (.cons _ _ _ _ (.own _ _ rfl) .nil)))) (.old 1 1 _ _ _ rfl rfl (.vars _ _ (zb rfl)) (.old 2 2 _ _ _ rfl rfl (.data_eq rfl) (.old 3 3 _ _ _ rfl rfl (.data_eq rfl) (.old 4 4 _ _ _ rfl rfl (.data_eq rfl) (.old 5 5 _ _ _ rfl rfl (.data_eq ?_) (.old 6 _ _ _ _ rfl rfl (.data_eq ?_) .nil)))))),rfl⟩
     ·exact e1.symm
     ·exact e2.symm
   ·have hge:i=l.l2.length:=by simp at h2;omega
    show AOb ((0:Int)<=2/\(2:Int)<3) _
    refine⟨by decide,?_⟩
    show ARet ..
    refine⟨[],[],[(l.set_ 2 (zbj (l.at_ 2) low high (l.at_ 2).length)).tv,.c (.d (.sl .int (zcx (l.at_ 2) low high (l.at_ 2).length))),.int 0],.cons _ _ _ _ (.agg _ _ (.cons _ _ _ _ (.frz _ _ rfl) (.cons _ _ _ _ (.frz _ _ rfl) (.cons _ _ _ _ (.frz_eq rfl ?_) .nil)))) (.cons _ _ _ _ (.frz rfl ?_) (.cons _ _ _ _ .same .nil)),.nil,rfl,rfl,rfl⟩
    ·show zbj l.l2 low high i=_
     rw[hge];rfl
    ·show zcx l.l2 low high i=_
     rw[hge];rfl
def zpX (p:Page) (a:Int):Int:=if p.kind=2/\a % 16=0 then 16*p.arg else if p.kind=1 then (if a % clsW p.arg=0 then clsW p.arg else 0) else 0
theorem rng {i:Nat} {a W N:Int} (hW:(W=2/\N=8)\/(W=4/\N=4)\/(W=8/\N=2)) (h1:16*((i:Int)+1)<=a) (h2:a<16*((i:Int)+2)) (hm:a % W=0):∃k:Nat,(k:Int)<N/\16*((i:Int)+1)+k*W=a:=by
 refine⟨((a-16*((i:Int)+1)) / W).toNat,?_,?_⟩<;>rcases hW with⟨rfl,rfl⟩|⟨rfl,rfl⟩|⟨rfl,rfl⟩<;>omega
theorem zxf {p:Page} {i:Nat} {a:Int} (hp:zbu p) (h1:16*((i:Int)+1)<=a) (h2:a<16*((i:Int)+2)) (x:Int×Int) :
  x∈zH p (16*((i:Int)+1))/\x.1=a↔zpX p a≠0/\x=(a,zpX p a):=by
 unfold zH zpX
 by_cases hk:p.kind=2
 ·have ha:=hp.2 hk
  rw[if_pos hk]
  by_cases hm:a % 16=0
  ·rw[if_pos ⟨hk,hm⟩]
   have e:a=16*((i:Int)+1):=by omega
   subst e
   simp only[List.mem_singleton]
   constructor
   ·rintro⟨rfl,_⟩
    exact⟨by omega,by rw[Int.mul_comm 16 p.arg]⟩
   ·rintro⟨_,rfl⟩
    exact⟨by rw[Int.mul_comm 16 p.arg],rfl⟩
  ·rw[if_neg (fun h=>hm h.2),if_neg (by omega)]
   simp only[List.mem_singleton]
   constructor
   ·rintro⟨rfl,h⟩
    exact absurd (show a % 16=0 by simp only at h;omega) hm
   ·rintro⟨h,_⟩;exact absurd rfl h
 ·have hk' : ¬(p.kind=2/\a % 16=0):=fun h=>hk h.1
  rw[if_neg hk,if_neg hk']
  by_cases hk1:p.kind=1
  ·have ha:=hp.1 hk1
   rw[if_pos hk1,if_pos hk1]
   have hWN:=zh8 ha
   generalize clsW p.arg=W at hWN
   generalize clsN p.arg=N at hWN
   constructor
   ·rintro⟨h,rfl⟩
    obtain⟨k,hkr,rfl⟩:=List.mem_map.1 h
    rw[List.mem_range]at hkr
    simp only at h1 h2 ⊢
    have hm:(16*((i:Int)+1)+(k:Int)*W) % W=0:=by rcases hWN with⟨rfl,rfl⟩|⟨rfl,rfl⟩|⟨rfl,rfl⟩<;>omega
    rw[if_pos hm]
    exact⟨by omega,rfl⟩
   ·rintro⟨h,rfl⟩
    by_cases hm:a % W=0
    ·rw[if_pos hm]
     obtain⟨k,hkN,e⟩:=rng hWN h1 h2 hm
     exact⟨List.mem_map.2 ⟨k,List.mem_range.2 (by omega),by rw[e]⟩,rfl⟩
    ·rw[if_neg hm]at h
     exact absurd rfl h
  ·rw[if_neg hk1,if_neg hk1]
   constructor
   ·rintro⟨h,_⟩;cases h
   ·rintro⟨h,_⟩;exact absurd rfl h
def zwM (l:List Page) (a:Int):Int:=if zao l=true/\16<=a/\a<16+16*(l.length:Int) then zpX (l.getD (a / 16-1).toNat default) a else 0
theorem zwO (l:List Page) (a:Int):zwM l a=ze l a:=by
 unfold zwM
 by_cases hm:zao l=true
 ·by_cases ha:16<=a/\a<16+16*(l.length:Int)
  ·rw[if_pos ⟨hm,ha⟩]
   obtain⟨i,hi⟩:∃i:Nat,a / 16-1=(i:Int):=⟨(a / 16-1).toNat,by omega⟩
   rw[hi]
   have hil:i<l.length:=by omega
   have hp:=(zag hm).1 i hil
   have key:=zxf (i:=i) (a:=a) hp (by omega) (by omega)
   simp only[Int.toNat_natCast]
   by_cases h0:zpX (l.getD i default) a=0
   ·rw[h0]
    by_cases hr:ze l a=0
    ·exact hr.symm
    ·obtain⟨_,j,hj⟩:=zac (zq hr)
     have hd:=hj.div
     simp only at hd
     have hji:j=i:=by omega
     subst hji
     exact absurd ((key _).1 ⟨hj.mem,rfl⟩).1 (by rw[h0];simp)
   ·have hx:=(key (a,zpX (l.getD i default) a)).2 ⟨h0,rfl⟩
    have hmem:(a,zpX (l.getD i default) a)∈cellsAll l:=by
     unfold cellsAll
     rw[if_pos hm]
     exact zmd (Nat.zero_le _) hil hx.1
    exact(zby hmem).symm
  ·rw[if_neg (fun h=>ha h.2)]
   by_cases hr:ze l a=0
   ·exact hr.symm
   ·obtain⟨_,j,hj⟩:=zac (zq hr)
    have h1:=hj.lo;have h2:=hj.hi;have h3:=hj.lt
    simp only at h1 h2
    omega
 ·rw[if_neg (fun h=>hm h.1)]
  by_cases hr:ze l a=0
  ·exact hr.symm
  ·exact absurd (zac (zq hr)).1 hm
theorem zgw (l:List Page) (a:Int):Spec X 85 [] [.c (.d (.sl .page l)),.int a] (Ret [] (.int (ze l a))):=by
 refine zGO X_ok Tryz.f85 fun hb hH=>⟨rfl,?_⟩
 rw[←zwO]
 have hla:l.length<=zA:=(hb (.c (.d (.sl .page l))) (by simp)).1
 unfold zA at hla
 have w1:IntKind.i64.wrap (16*(l.length:Int))=16*(l.length:Int):=zu (by omega) (by omega)
 have w2:IntKind.i64.wrap (16+16*(l.length:Int))=16+16*(l.length:Int):=zu (by omega) (by omega)
 show ACall ..
 refine za (zkH l) rfl ?_
 show ABr (bif (bif !zao l then true else decide (a<16)) then true else decide (a>=IntKind.i64.wrap (16+IntKind.i64.wrap (16*(l.length:Int))))) _ _
 rw[w1,w2]
 refine⟨fun h=>?_,fun h=>?_⟩
 ·show ARet ..
  refine zaA (x:=0) ?_ ⟨rfl,rfl⟩
  unfold zwM
  rw[if_neg]
  rintro⟨g1,g2,g3⟩
  have e1:decide (a<16)=false:=decide_eq_false (by omega)
  have e2:decide (a>=16+16*(l.length:Int))=false:=decide_eq_false (by omega)
  rw[g1,e1,e2]at h
  exact absurd h (by decide)
 ·have hc:zao l=true/\16<=a/\a<16+16*(l.length:Int):=by
   cases hm:zao l with
   |false=>rw[hm]at h;exact absurd h (by simp)
   |true=>
    rw[hm]at h
    by_cases e1:a<16
    ·rw[decide_eq_true e1]at h;exact absurd h (by simp)
    ·rw[decide_eq_false e1]at h
     exact⟨rfl,by omega,by have:=of_decide_eq_false h;omega⟩
  obtain⟨hm,h1,h2⟩:=hc
  have e1:tdv a 16=a / 16:=zds (by omega) (by omega) (by omega)
  have e2:IntKind.i64.wrap (tdv a 16-1)=a / 16-1:=by rw[e1];exact zu (by omega) (by omega)
  have hp:zbu (l.getD (a / 16-1).toNat default):=(zag hm).1 _ (by omega)
  unfold zwM
  rw[if_pos ⟨hm,h1,h2⟩]
  obtain⟨p,hpe⟩:∃p,p=l.getD (a / 16-1).toNat default:=⟨_,rfl⟩
  rw[←hpe]at hp ⊢
  show AOb ..
  refine⟨by decide,?_⟩
  show AOb ((0:Int)<=IntKind.i64.wrap (tdv a 16-1)/\IntKind.i64.wrap (tdv a 16-1)<(l.length:Int)) _
  refine⟨by rw[e2];omega,?_⟩
  have hget:l.getD (IntKind.i64.wrap (tdv a 16-1)).toNat default=p:=by rw[e2,hpe]
  have hmod:a.tmod 16=a % 16:=Int.tmod_eq_emod_of_nonneg (by omega)
  show AOb ..
  refine⟨by simp,?_⟩
  unfold zpX
  show ABr (bif decide ((l.getD (IntKind.i64.wrap (tdv a 16-1)).toNat default).kind=2) then decide (a.tmod 16=0) else false) _ _
  rw[hget,hmod]
  refine⟨fun h=>?_,fun h=>?_⟩
  ·have hk:p.kind=2/\a % 16=0:=by
    by_cases g1:p.kind=2
    ·rw[decide_eq_true g1]at h;exact⟨g1,of_decide_eq_true h⟩
    ·rw[decide_eq_false g1]at h;exact absurd h (by simp)
   rw[if_pos hk]
   have ha:=hp.2 hk.1
   show ARet _ _ [.int (IntKind.i64.wrap (16*(l.getD (IntKind.i64.wrap (tdv a 16-1)).toNat default).arg))]
   rw[hget]
   exact zaA (zu (by omega) (by omega)) ⟨rfl,rfl⟩
  ·have hk:¬(p.kind=2/\a % 16=0):=by
    rintro⟨g1,g2⟩
    rw[decide_eq_true g1,decide_eq_true g2]at h
    exact absurd h (by decide)
   rw[if_neg hk]
   show ABr (decide ((l.getD (IntKind.i64.wrap (tdv a 16-1)).toNat default).kind=1)) _ _
   rw[hget]
   refine⟨fun h=>?_,fun h=>?_⟩
   ·have hk1:=of_decide_eq_true h
    rw[if_pos hk1]
    have ha:=hp.1 hk1
    show ACall ..
    refine za ((zeM (l.getD (IntKind.i64.wrap (tdv a 16-1)).toNat default).arg)) rfl ?_
    rw[hget]
    have hW:0<clsW p.arg:=by rcases zh8 ha with⟨h,_⟩|⟨h,_⟩|⟨h,_⟩<;>omega
    show AOb (clsW p.arg≠0) _
    refine⟨by omega,?_⟩
    have hmod2:a.tmod (clsW p.arg)=a % clsW p.arg:=Int.tmod_eq_emod_of_nonneg (by omega)
    show ABr (decide (a.tmod (clsW p.arg)=0)) _ _
    rw[hmod2]
    refine⟨fun h=>?_,fun h=>?_⟩
    ·rw[if_pos (of_decide_eq_true h)]
     show ARet ..
     exact zg rfl ⟨rfl,rfl⟩
    ·rw[if_neg (of_decide_eq_false h)]
     show ARet ..
     exact zg rfl ⟨rfl,rfl⟩
   ·rw[if_neg (of_decide_eq_false h)]
    show ARet ..
    exact zg rfl ⟨rfl,rfl⟩
theorem zqn {l m:List Int} (hl:l.Pairwise (· < ·)) (hm:m.Pairwise (· < ·)) (h:∀x,x∈l↔x∈m):l=m:=by
 induction l generalizing m with
 |nil=>
  cases m with
  |nil=>rfl
  |cons y r=>exact absurd ((h y).2 (List.mem_cons_self ..)) (by simp)
 |cons x l ih=>
  cases m with
  |nil=>exact absurd ((h x).1 (List.mem_cons_self ..)) (by simp)
  |cons y m=>
   rw[List.pairwise_cons]at hl hm
   have hxy:x=y:=by
    rcases List.mem_cons.1 ((h x).1 (List.mem_cons_self ..)) with e|h1
    ·exact e
    ·rcases List.mem_cons.1 ((h y).2 (List.mem_cons_self ..)) with e|h2
     ·exact e.symm
     ·have:=hl.1 y h2;have:=hm.1 x h1;omega
   subst hxy
   rw[ih hl.2 hm.2 fun z=>?_]
   constructor
   ·intro hz
    rcases List.mem_cons.1 ((h z).1 (List.mem_cons_of_mem _ hz)) with e|h1
    ·subst e;exact absurd (hl.1 z hz) (by omega)
    ·exact h1
   ·intro hz
    rcases List.mem_cons.1 ((h z).2 (List.mem_cons_of_mem _ hz)) with e|h1
    ·subst e;exact absurd (hm.1 z hz) (by omega)
    ·exact h1
def zg9 (l:List Page) (n:Nat):List Int:=((List.range n).map fun i:Nat=>16+(i:Int)).filter fun a=>decide (ze l a>0)
theorem zk2 (l:List Page) (n:Nat):zg9 l (n+1)=zg9 l n++(bif decide (ze l (16+(n:Int))>0) then [16+(n:Int)] else []):=by
 unfold zg9
 rw[List.range_succ,List.map_append,List.filter_append]
 by_cases h:ze l (16+(n:Int))>0<;>simp[h]
theorem znL (l:List Page) (n:Nat):(zg9 l n).Pairwise (· < ·):=by
 unfold zg9
 refine List.Pairwise.filter _ ?_
 rw[List.pairwise_map]
 exact List.Pairwise.imp (fun h=>by omega) List.pairwise_lt_range
theorem zm9 (l:List Page):zg9 l (16*l.length)=cellStarts l:=by
 refine zqn (znL l _) (zc3 l) fun x=>?_
 rw[zn]
 unfold zg9
 rw[List.mem_filter]
 constructor
 ·rintro⟨_,h⟩
  have:=of_decide_eq_true h
  omega
 ·intro h
  have h0:=zc7 l x
  obtain⟨_,j,hj⟩:=zac (zq h)
  have h1:=hj.lo;have h2:=hj.hi;have h3:=hj.lt
  simp only at h1 h2
  exact⟨List.mem_map.2 ⟨(x-16).toNat,List.mem_range.2 (by omega),by omega⟩,decide_eq_true (by omega)⟩
theorem zfh (l:List Page):(cellStarts l).length<=512:=by unfold cellStarts;rw[List.length_map];exact zb0 l
theorem zt2 (l:List Page) (n:Nat) (h:n<=16*l.length):(zg9 l n).length<=512:=by
 have h1:=zfh l
 rw[←zm9]at h1
 obtain⟨k,hk⟩:∃k,16*l.length=n+k:=⟨16*l.length-n,by omega⟩
 rw[hk]at h1
 refine Nat.le_trans ?_ h1
 clear h1 hk h
 induction k with
 |zero=>exact Nat.le_refl _
 |succ k ih=>rw[←Nat.add_assoc,zk2,List.length_append];omega
theorem zl9 (l:List Page):Spec X 87 [] [.c (.d (.sl .page l))] (Ret [(0,.data .int (cellStarts l))] (.c (.own 0))):=by
 refine zGO X_ok Tryz.f87 fun hb hH=>⟨rfl,?_⟩
 have hla:l.length<=zA:=(hb (.c (.d (.sl .page l))) (by simp)).1
 unfold zA at hla
 have w1:IntKind.i64.wrap (16*(l.length:Int))=16*(l.length:Int):=zu (by omega) (by omega)
 have w2:IntKind.i64.wrap (16+16*(l.length:Int))=16+16*(l.length:Int):=zu (by omega) (by omega)
 show ∃n,_
 refine⟨0,ALoop.inv (ι:={i:Nat // i<=16*l.length}) (fun i=>⟨[(0,.c (.d (.sl .page l))),(3,.c (.own 1)),(4,.int (16+(i.1:Int)))],[(1,.data .int (zg9 l i.1))],64⟩) (fun i=>16*l.length-i.1) ⟨0,Nat.zero_le _⟩ ?_ ?_⟩
 ·exact⟨[],.cons _ _ _ .same (.cons _ _ _ (.c _ _ (.nilown 1 .int rfl rfl)) (.cons _ _ _ .same .nil)),.new 1 .int _ rfl .nil,rfl⟩
 ·rintro⟨i,hi⟩
  show ABr (decide (16+(i:Int)<IntKind.i64.wrap (16+IntKind.i64.wrap (16*(l.length:Int))))) _ _
  rw[w1,w2]
  refine⟨fun h=>?_,fun h=>?_⟩
  ·have hlt:i<16*l.length:=by have:=of_decide_eq_true h;omega
   have wi:IntKind.i64.wrap (16+(i:Int)+1)=16+((i+1:Nat):Int):=by rw[zu (by omega) (by omega)];omega
   show ACall ..
   refine za (zgw l (16+(i:Int))) rfl ?_
   have hs:=zk2 l i
   have hl5:=zt2 l i hi
   show ABr (decide (ze l (16+(i:Int))>0)) _ _
   refine⟨fun h=>?_,fun h=>?_⟩
   ·rw[h]at hs
    show AOb ((zg9 l i).length+1<=zi) _
    refine⟨by unfold zi;omega,?_⟩
    show ARound ..
    exact⟨⟨i+1,hlt⟩,by show 16*l.length-(i+1)<16*l.length-i;omega,[(_,1)],.cons _ _ _ .same (.cons _ _ _ (.c _ _ (.own1 _ _)) (.cons _ _ _ (.int_eq wi) .nil)),.old 1 _ _ _ _ rfl rfl (.data_eq hs.symm) .nil,rfl⟩
   ·rw[h]at hs
    show ARound ..
    exact⟨⟨i+1,hlt⟩,by show 16*l.length-(i+1)<16*l.length-i;omega,[(1,1)],.cons _ _ _ .same (.cons _ _ _ (.c _ _ (.own1 _ _)) (.cons _ _ _ (.int_eq wi) .nil)),.old 1 1 _ _ _ rfl rfl (.data_eq (by rw[hs];exact(List.append_nil _).symm)) .nil,rfl⟩
  ·have hge:i=16*l.length:=by have:=of_decide_eq_false h;omega
   subst hge
   show ARet ..
   exact⟨[(1,0)],[(0,.data .int (cellStarts l))],[.c (.own 0)],.cons _ _ _ _ (.c _ _ (.own1 _ _)) .nil,.old 0 1 _ _ _ rfl rfl (.data_eq (zm9 l)) .nil,rfl,rfl,rfl⟩
end Go.Abs
