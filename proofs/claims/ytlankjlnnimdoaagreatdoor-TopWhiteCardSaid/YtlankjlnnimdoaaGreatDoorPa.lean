/- Walks and plain laws: LBase, LTop, LCard, LFacts, WSort, WClass, WHead. -/
import Derived.Test.YtlankjlnnimdoaaGreatDoorRows
import Derived.Test.YtlankjlnnimdoaaGreatDoorAbsLaw1
import Derived.Below
import Derived.Carry
import Derived.SizedLaws
import Derived.Test.YtlankjlnnimdoaaGreatDoorTie
import Derived.Test.YtlankjlnnimdoaaGreatDoorCards
import Derived.LaidMore
import Derived.Stop.Joined
import Derived.SevenTiedAt
import Derived.KernelRfl
import Derived.JoinedOf
import Derived.Test.YtlankjlnnimdoaaGreatDoorWLen1
import Derived.Test.YtlankjlnnimdoaaGreatDoorAbsBase1
set_option linter.all false
set_option maxRecDepth 100000
namespace Go.Proofs.YtlankjlnnimdoaaGreatDoor
open Go.ChangeShapes Go.WideShapes Go.ChangeAt Go.RowKit
theorem own:ownKnob Tryz.prog.godebug=none:=by kernel_rfl
theorem zxg:laidOutB Tryz.prog=true:=by kernel_rfl
abbrev isInts (y:Abs.TV):Prop:=∃z:List Int,y = .c (.d (.sl .int z))
abbrev zxq (y:Abs.TV):Prop:=∃n:Int,y = .c (.d (.int n))/\(Lit.int .i64 n).wf=true
theorem zxv:Abs.Opn Tryz.prog 3 zxq:=Abs.Opn.int Tryz.underlying3
end Go.Proofs.YtlankjlnnimdoaaGreatDoor
set_option maxRecDepth 100000
namespace Go.Abs
open Go.ChangeShapes Go.WideShapes Go.RowKit
section
variable {X:Ctx} {w:World}
theorem Rd.pairX (hX:XOk X) {t a:Nat} (hk:(X.ty t).k = .st [(0,a),(1,a)]) (hs:(X.ty t).size=2) (ha:(X.ty a).k = .int .i64) (hok:(X.ty a).ok=true):Rd X.P w t (fun cs=>∃y:Pair,RepL no w (EK.pair.enc y) cs):=by
 have f (i o:Nat) (h:za8 [(0,a),(1,a)] i=some (o,a)):=Rd.fieldX (w:=w) hX hk i h hok (Rd.intX hX ha)
 refine Rd.mono (Rd.and (Rd.lenX hX hk) (Rd.and (f 0 0 rfl) (f 1 1 rfl))) ?_
 rintro cs ⟨hl,⟨k,h0,_⟩,⟨x,h1,_⟩⟩
 rw[hs]at hl
 match cs,hl with
 |[c0,c1],_=>
  have e0:=zjE h0;have e1:=zjE h1
  simp at e0 e1
  subst e0 e1
  exact⟨⟨k,x⟩,repL_cons (zlo _) (repL_cons (zlo _) repL_nil)⟩
end
end Go.Abs
namespace Go.Proofs.YtlankjlnnimdoaaGreatDoor
open Go.ChangeShapes Go.WideShapes Go.ChangeAt Go.RowKit
theorem zwt (w:World):Abs.Rd Tryz.prog w 23 (fun cs=>∃(l:List Abs.Pair) (v:Value),cs=[v]/\Abs.Rep Abs.no w (.sl .pair l) v):=
 Abs.Rd.sliceX (X:=Abs.X) Abs.X_ok .pair (t:=23) (e:=60) rfl rfl rfl rfl (Abs.Rd.pairX (X:=Abs.X) Abs.X_ok (t:=60) (a:=3) rfl rfl rfl rfl)
abbrev zsS (y:Abs.TV):Prop:=∃z:List Abs.Pair,y = .c (.d (.sl .pair z))
theorem zwc:Abs.Opn Tryz.prog 23 zsS:=Abs.Opn.slice .pair Tryz.underlying23 zwt
theorem zyw (w:World):Abs.Rd Tryz.prog w 43 (fun cs=>∃(l:List Abs.Op) (v:Value),cs=[v]/\Abs.Rep Abs.no w (.sl .op l) v):=
 Abs.Rd.sliceX (X:=Abs.X) Abs.X_ok .op (t:=43) (e:=47) rfl rfl rfl rfl (Abs.Rd.opX (X:=Abs.X) Abs.X_ok (t:=47) (a:=3) rfl rfl rfl rfl)
theorem zxZ (w:World):Abs.Rd Tryz.prog w 22 (fun cs=>∃(l:List (List Abs.Op)) (v:Value),cs=[v]/\Abs.Rep Abs.no w (.sl .opss l) v):=
 Abs.Rd.sliceX (X:=Abs.X) Abs.X_ok .opss (t:=22) (e:=43) rfl rfl rfl rfl ((zyw w).mono fun cs ⟨l,v,e,r⟩=>⟨l,by rw[e];exact Abs.repL_cons r Abs.repL_nil⟩)
abbrev zuJ (y:Abs.TV):Prop:=∃z:List (List Abs.Op),y = .c (.d (.sl .opss z))
theorem zwL:Abs.Opn Tryz.prog 22 zuJ:=Abs.Opn.slice .opss Tryz.underlying22 zxZ
end Go.Proofs.YtlankjlnnimdoaaGreatDoor
namespace Go.Proofs.YtlankjlnnimdoaaGreatDoor
open Go.ChangeShapes Go.WideShapes Go.ChangeAt Go.RowKit
abbrev zpc:List (String×DataW Unit):=[("ragpicker/class.words",Rows.laid_ragpicker_class_words)]
theorem zxR:Tryz.prog.globalNamed "ragpicker/class.words" = some 0:=by kernel_rfl
theorem zxM:(Tryz.prog.globals[0]?).map (·.type)=some 176:=by kernel_rfl
theorem zv3 (os:Os) (args:Array Value):laidMetH Tryz.prog zpc ((World.doorLaid Tryz.prog 400 os).forCall (fun _ _=>0) ⟨#[],args,[]⟩).memory:=
 laidMetH_of_parts3 (fuel:=8) (laidMet_of_run' 8 (by kernel_rfl) (by kernel_rfl)) (by kernel_rfl) (by kernel_rfl)
set_option maxRecDepth 100000 in
theorem zxh {W:World} (h:laidMetH Tryz.prog zpc W):Abs.GOk Abs.X (Abs.OO Abs.nn Abs.no) W:=by
 rw[MakeChecks.laidMetH_plain _ _ _ (by kernel_rfl)]at h
 obtain⟨ps,⟨g0,t0,cs0,f0,p0,q0,hg0,ht0,hv0,hd0,_,_⟩,_,_⟩:=h
 obtain rfl:=Option.some.inj (zxR.symm.trans hg0)
 obtain rfl:=Option.some.inj (zxM.symm.trans ht0)
 obtain⟨xs,m1,_,hx1,hlen,hn3,hel⟩:=DataW.trod_array Tryz.underlying176 hd0
 have c1:Tryz.prog.cellsOf 3=1:=by kernel_rfl
 have c3:Tryz.prog.cellsOf 176=3:=by kernel_rfl
 rw[c3]at hlen
 have hcell:∀i,W.cell? ⟨0,i,none⟩=cs0.toList[i]?:=fun i=>by rw[World.var?_cell hg0 hv0 i];simp
 generalize cs0.toList=vs at hlen hel hcell
 match vs,hlen with
 |[a,b,c],_=>
  match xs,hn3 with
  |[x0,x1,x2],_=>
   have h0:=hel 0 (by decide)
   have h1:=hel 1 (by decide)
   have h2:=hel 2 (by decide)
   rw[c1]at h0 h1 h2
   obtain⟨k0,e0,f0,_⟩:=DataW.trod_int Tryz.underlying3 (show DataW.trod _ Tryz.prog W 0 _ false m1 3 [a]=some x0 from h0)
   obtain⟨k1,e1,f1,_⟩:=DataW.trod_int Tryz.underlying3 (show DataW.trod _ Tryz.prog W 0 _ false m1 3 [b]=some x1 from h1)
   obtain⟨k2,e2,f2,_⟩:=DataW.trod_int Tryz.underlying3 (show DataW.trod _ Tryz.prog W 0 _ false m1 3 [c]=some x2 from h2)
   subst f0 f1 f2
   simp only[Prod.mk.injEq,List.map_cons,List.map_nil]at hx1
   have hx:=hx1.1
   unfold Rows.laid_ragpicker_class_words at hx
   injection hx with hx
   simp only[List.cons.injEq,DataW.lit.injEq,Lit.int.injEq,true_and,and_true]at hx e0 e1 e2
   obtain⟨rfl,rfl,rfl⟩:=hx
   subst e0 e1 e2
   intro g xs hgx
   have hs:g=0/\xs=[Abs.DV.int 2,Abs.DV.int 4,Abs.DV.int 8]:=by
    have:Abs.look none (Abs.gls.map fun(i,x)=>(i,some x)) g=some xs:=hgx
    simp only[Abs.gls,List.map_cons,List.map_nil,Abs.look]at this
    cases hb:Nat.beq 0 g with
    |false=>rw[hb]at this;cases this
    |true=>
     rw[hb]at this
     exact⟨(Nat.eq_of_beq_eq_true hb).symm,by injection this with e;exact e.symm⟩
   obtain⟨rfl,rfl⟩:=hs
   refine .rp _ _ [.int .i64 2,.int .i64 4,.int .i64 8] (fun _ ho=>?_) rfl rfl (fun i x v hx hv=>?_) fun j v hv=>?_
   ·rcases ho with⟨b,hb⟩|hb
    ·exact hb.elim
    ·exact hb.elim
   ·match i,hx,hv with
    |0,hx,hv=>cases hx;cases hv;exact .lit _ rfl
    |1,hx,hv=>cases hx;cases hv;exact .lit _ rfl
    |2,hx,hv=>cases hx;cases hv;exact .lit _ rfl
    |_+3,hx,hv=>cases hx
   ·show W.cell? ⟨0,0+j,none⟩=some v
    rw[Nat.zero_add,hcell]
    exact hv
end Go.Proofs.YtlankjlnnimdoaaGreatDoor
namespace Go.Proofs.YtlankjlnnimdoaaGreatDoor
theorem zxI:Tryz.pinned.checked.prog.mayEnter=true:=by kernel_rfl
theorem zx8:(false==Tryz.pinned.checked.prog.liftsFinal)=true:=by kernel_rfl
theorem zyp:(Tryz.pinned.checked.prog.make==some Make.cut)=true:=by kernel_rfl
theorem zys:Tryz.pinned.checked.prog.mainIs=some (true,"ae9ca4c3943a1593d88c71a03acb0a6ab574f3786b88618b7295976d020b2e7a".toList):=by kernel_rfl
theorem zx5:false=Tryz.pinned.checked.prog.looks []:=by kernel_rfl
theorem zhv {a b:Bool} (h:a=true) (k:b=true):(a&&b)=true:=by rw[h,k];rfl
end Go.Proofs.YtlankjlnnimdoaaGreatDoor
namespace Go.Abs
open Go.Proofs Go.Proofs.YtlankjlnnimdoaaGreatDoor
theorem zis:∀f x,Lib.bitLenAux f x<=f
 |0,_=>Nat.le_refl _
 |f+1,x=>by
  unfold Lib.bitLenAux
  split
  ·exact Nat.zero_le _
  ·have:=zis f (x / 2)
   omega
theorem zss {X:Ctx} {f:Nat} {args:List TV} {vs:List Value} {Q:zh->TV->Prop} (hok:zfw X.P f) (hargs:∀N S w us,zbh N S w args us->us=vs) (h:∀w,Calls X.P f vs.toArray w fun e w'=>∃v,e = .returned v/\w' = w/\v.oneCell' = true/\Q [] (.lit v)):Spec X f [] args Q:=
 ⟨hok,fun N S w us hnr hh hu hg ha=>by
  rw[hargs N S w us ha]
  refine(h w).mono ?_
  rintro e w' ⟨v,rfl,rfl,h1,hq⟩
  exact⟨v,N,[],_,rfl,hq,hnr,fun b x hx=>(by cases hx),hu,zU h1,.refl _ _,fun _ _ h=>h,fun _ _=>.inr (.inl rfl)⟩⟩
theorem zuT (x:Int) (h0:0<=x) (h1:x<=18446744073709551615):Spec X 130 [] [.lit (.int .u64 x)] (fun H r=>H=[]/\∃n:Int,0<=n/\n<=64/\r = .int n):=by
 refine zss (vs:=[.int .u64 x]) ⟨Tryz.f130,by kernel_rfl,by kernel_rfl,by kernel_rfl⟩ (fun N S w us ha=>?_) fun w=>(zwj x w h0 h1).mono ?_
 ·match us,ha with
  |[u],ha=>rw[zK (ha.2 0 _ u rfl rfl)]
  |[],ha=>exact absurd ha.1 (by simp)
  |_::_::_,ha=>exact absurd ha.1 (by simp)
 ·rintro e w' ⟨rfl,rfl⟩
  exact⟨_,rfl,rfl,rfl,rfl,_,by omega,by have:=zis 64 x.toNat;unfold Lib.bitLen;omega,rfl⟩
theorem zd (l:List Int) (h:l.length<=zi):Spec X 63 [] [.c (.d (.sl .int l))] (Ret [] (.c (.d (.sl .int l)))):=by
 refine zGO X_ok Tryz.f63 fun hb _=>⟨rfl,?_⟩
 intro b (hnil:b=true->l=[])
 show ABr ..
 refine⟨fun hb=>?_,fun hb=>?_⟩
 ·show ARet ..
  exact zfM (.nilsl (hnil hb)) ⟨rfl,rfl⟩
 ·show AOb (0+l.length<=zi) _
  refine⟨by omega,?_⟩
  show ARet ..
  exact zfM (.frz rfl rfl) ⟨rfl,rfl⟩
theorem zab (l:List Page) (h:l.length<=zi):Spec X 64 [] [.c (.d (.sl .page l))] (Ret [] (.c (.d (.sl .page l)))):=by
 refine zGO X_ok Tryz.f64 fun hb _=>⟨rfl,?_⟩
 intro b (hnil:b=true->l=[])
 show ABr ..
 refine⟨fun hb=>?_,fun hb=>?_⟩
 ·show ARet ..
  exact zfM (.nilsl (hnil hb)) ⟨rfl,rfl⟩
 ·show AOb (0+l.length<=zi) _
  refine⟨by omega,?_⟩
  show ARet ..
  exact zfM (.frz rfl rfl) ⟨rfl,rfl⟩
theorem zae (l:List Bool) (h:l.length<=zi):Spec X 65 [] [.c (.d (.sl .bool l))] (Ret [] (.c (.d (.sl .bool l)))):=by
 refine zGO X_ok Tryz.f65 fun hb _=>⟨rfl,?_⟩
 intro b (hnil:b=true->l=[])
 show ABr ..
 refine⟨fun hb=>?_,fun hb=>?_⟩
 ·show ARet ..
  exact zfM (.nilsl (hnil hb)) ⟨rfl,rfl⟩
 ·show AOb (0+l.length<=zi) _
  refine⟨by omega,?_⟩
  show ARet ..
  exact zfM (.frz rfl rfl) ⟨rfl,rfl⟩
theorem zcb (l:List Op) (h:l.length<=zi):Spec X 34 [] [.c (.d (.sl .op l))] (Ret [] (.c (.d (.sl .op l)))):=by
 refine zGO X_ok Tryz.f34 fun hb _=>⟨rfl,?_⟩
 intro b (hnil:b=true->l=[])
 show ABr ..
 refine⟨fun hb=>?_,fun hb=>?_⟩
 ·show ARet ..
  exact zfM (.nilsl (hnil hb)) ⟨rfl,rfl⟩
 ·show AOb (0+l.length<=zi) _
  refine⟨by omega,?_⟩
  show ARet ..
  exact zfM (.frz rfl rfl) ⟨rfl,rfl⟩
set_option maxRecDepth 8000
def Lists.ok (l:Lists):Prop:=l.l0.length<=zi/\l.l1.length<=zi/\l.l2.length<=zi
theorem zq8 (x:Int):Spec X 225 [] [.int x] (Ret [] (.bo false)):=by
 refine zGO X_ok Tryz.f225 fun _ _=>⟨rfl,?_⟩
 show ARet ..
 refine zo (x:=!decide (x=x)) ?_ ⟨rfl,rfl⟩
 simp
theorem zmQ (x y:Int):Spec X 177 [] [.int x,.int y] (Ret [] (.bo (decide (x<y)))):=by
 refine zGO X_ok Tryz.f177 fun _ _=>⟨rfl,?_⟩
 show ACall ..
 refine za (zq8 x) rfl ?_
 show AIf ..
 refine⟨fun h=>absurd h.1 (by decide),fun _=>?_⟩
 show AOb ..
 refine⟨rfl,?_⟩
 show ARet ..
 exact zo rfl ⟨rfl,rfl⟩
structure Srt (l l' : List Int) (a b:Nat):Prop where
 len:l'.length=l.length
 out:∀i,(i<a\/b<=i)->l'[i]? = l[i]?
 perm:l'.Perm l
theorem Srt.refl (l:List Int) (a b:Nat):Srt l l a b:=⟨rfl,fun _ _=>rfl,.refl _⟩
theorem Srt.trans {l l' l'' : List Int} {a b:Nat} (h:Srt l l' a b) (h' : Srt l' l'' a b):Srt l l'' a b:=
 ⟨h'.len.trans h.len,fun i hi=>(h'.out i hi).trans (h.out i hi),h'.perm.trans h.perm⟩
def at0 (l:List Int) (i:Nat):Int:=l.getD i 0
theorem zs5 (l:List Int) (i k:Nat) (x:Int) (h:i<l.length):at0 (l.set i x) k=if i=k then x else at0 l k:=by
 unfold at0
 rw[List.getD_eq_getElem?_getD,List.getD_eq_getElem?_getD,List.getElem?_set]
 by_cases hk:i=k
 ·subst hk;simp[h]
 ·simp[hk]
def swp (l:List Int) (i j:Nat):List Int:=(l.set i (at0 l j)).set j (at0 l i)
theorem ztg (l:List Int) (i j:Nat):(swp l i j).length=l.length:=by simp[swp]
theorem zro (l:List Int) (i j k:Nat) (hi:i<l.length) (hj:j<l.length):at0 (swp l i j) k=if k=j then at0 l i else if k=i then at0 l j else at0 l k:=by
 unfold swp
 rw[zs5 _ _ _ _ (by simpa using hj),zs5 _ _ _ _ hi]
 by_cases h1:k=j
 ·subst h1;simp
 ·rw[if_neg (fun e=>h1 e.symm),if_neg h1]
  by_cases h2:k=i
  ·subst h2;simp
  ·rw[if_neg (fun e=>h2 e.symm),if_neg h2]
theorem zvD (l:List Int) (i j:Nat) (hi:i<l.length) (hj:j<l.length):(swp l i j).Perm l:=by
 have e:swp l i j=(l.set i l[j]).set j l[i]:=by
  unfold swp at0
  rw[List.getD_eq_getElem?_getD,List.getD_eq_getElem?_getD,List.getElem?_eq_getElem hi,List.getElem?_eq_getElem hj]
  rfl
 rw[e]
 exact List.set_set_perm hi hj
theorem zxe (l:List Int) (i j a b:Nat) (ha:a<=i) (ha' : a<=j) (hi:i<b) (hj:j<b) (hb:b<=l.length):Srt l (swp l i j) a b:=by
 refine⟨ztg l i j,fun k hk=>?_,zvD l i j (by omega) (by omega)⟩
 unfold swp
 rw[List.getElem?_set_ne (by omega),List.getElem?_set_ne (by omega)]
def zjD (l:List Int) (a b:Nat):Prop:=∀i j,a<=i->i<j->j<b->at0 l i<=at0 l j
structure Ins (l m:List Int) (a b i j:Nat):Prop where
 srt:Srt l m a b
 ja:a<=j
 ji:j<=i
 rest:∀p q,a<=p->p<q->q<=i->p≠j->q≠j->at0 m p<=at0 m q
 up:∀q,j<q->q<=i->at0 m j<=at0 m q
theorem Ins.start {l m:List Int} {a b i:Nat} (h:Srt l m a b) (hs:zjD m a i) (hi:a<=i):Ins l m a b i i:=
 ⟨h,hi,Nat.le_refl _,fun p q h1 h2 h3 h4 h5=>hs p q h1 h2 (by omega),fun q h1 h2=>by omega⟩
theorem Ins.step {l m:List Int} {a b i j:Nat} (h:Ins l m a b i j) (hj:a<j) (hb:i<b) (hl:b<=l.length) (hlt:at0 m j<at0 m (j-1)):Ins l (swp m (j) (j-1)) a b i (j-1):=by
 have hlen:=h.srt.len
 have hji:=h.ji
 have hat:=zro m j (j-1)
 refine⟨h.srt.trans (zxe m j (j-1) a b h.ja (by omega) (by omega) (by omega) (by omega)),by omega,by omega,fun p q h1 h2 h3 h4 h5=>?_,fun q h1 h2=>?_⟩
 ·rw[hat p (by omega) (by omega),hat q (by omega) (by omega),if_neg h4,if_neg h5]
  by_cases hp:p=j
  ·subst hp
   rw[if_pos rfl,if_neg (by omega)]
   exact h.rest (p-1) q (by omega) (by omega) h3 (by omega) (by omega)
  ·rw[if_neg hp]
   by_cases hq:q=j
   ·subst hq
    rw[if_pos rfl]
    exact h.rest p (q-1) h1 (by omega) (by omega) hp (by omega)
   ·rw[if_neg hq]
    exact h.rest p q h1 h2 h3 hp hq
 ·rw[hat (j-1) (by omega) (by omega),if_pos rfl,hat q (by omega) (by omega),if_neg (by omega)]
  by_cases hq:q=j
  ·subst hq;rw[if_pos rfl];omega
  ·rw[if_neg hq];exact h.up q (by omega) h2
theorem Ins.done {l m:List Int} {a b i j:Nat} (h:Ins l m a b i j) (hx:j=a\/at0 m (j-1)<=at0 m j):zjD m a (i+1):=by
 have hja:=h.ja
 intro p q h1 h2 h3
 by_cases hp:p=j
 ·subst hp;exact h.up q h2 (by omega)
 ·by_cases hq:q=j
  ·subst hq
   rcases hx with hx|hx
   ·omega
   ·by_cases hpq:p=q-1
    ·subst hpq;exact hx
    ·exact Int.le_trans (h.rest p (q-1) h1 (by omega) (by omega) hp (by omega)) hx
  ·exact h.rest p q h1 h2 (by omega) hp hq
abbrev zcL (l:List Int):zh:=[(16,.data .int l)]
def zlD (l:List Int) (a b:Nat):zh->TV->Prop:=fun H r=>r = .tup []/\∃l',H=zcL l'/\Srt l l' a b/\zjD l' a b
theorem zP {i:Nat} (h:i<=zA):IntKind.i64.wrap ((i:Int)+1)=((i+1:Nat):Int):=by
 unfold zA at h
 rw[zu (by omega) (by omega)];omega
theorem ziV {i:Nat} (h:i<=zA) (h0:0<i):IntKind.i64.wrap ((i:Int)-1)=((i-1:Nat):Int):=by
 unfold zA at h
 rw[zu (by omega) (by omega)];omega
theorem zu1 (l:List Int) (a b:Nat) (ha:a<=b) (hbl:b<=l.length):Spec X 171 (zcL l) [.c (.own 16),.int a,.int b] (zlD l a b):=by
 refine zGO X_ok Tryz.f171 fun hb hH=>⟨rfl,?_⟩
 have hmax:l.length<=zA:=hH 16 .int l rfl
 show ∃n,_
 refine⟨0,ALoop.inv (ι:={p:List Int×Nat // Srt l p.1 a b/\a<p.2/\(p.2<=b\/p.2=a+1)/\zjD p.1 a p.2}) (fun p=>⟨[(0,.c (.own 16)),(1,.int a),(2,.int b),(6,.int p.1.2)],[(16,.data .int p.1.1)],64⟩) (fun p=>b-p.1.2) ⟨(l,a+1),Srt.refl _ _ _,Nat.lt_succ_self a,.inr rfl,fun i j h1 h2 h3=>by omega⟩ ?_ ?_⟩
 ·exact⟨[(16,16)],.cons _ _ _ (.c _ _ (.own _ _ rfl)) (.cons _ _ _ .same (.cons _ _ _ .same (.cons _ _ _ (.int_eq (zP (by omega))) .nil))),.old 16 16 _ _ _ rfl rfl (.data_eq rfl) .nil,rfl⟩
 ·rintro⟨⟨m,i⟩,hs,hai,hib,hso⟩
  show ABr ..
  refine⟨fun(h:decide ((i:Int)<(b:Int))=true)=>?_,fun(h:decide ((i:Int)<(b:Int))=false)=>?_⟩
  ·have hlt:i<b:=by simpa using h
   have hml:m.length=l.length:=hs.len
   show ∃n,_
   refine⟨0,ALoop.inv (ι:={p:List Int×Nat // Ins l p.1 a b i p.2}) (fun p=>⟨[(0,.c (.own 16)),(1,.int a),(2,.int b),(6,.int i),(7,.int p.1.2)],[(16,.data .int p.1.1)],64⟩) (fun p=>p.1.2) ⟨(m,i),Ins.start hs hso (by omega)⟩ ?_ ?_⟩
   ·exact⟨[(16,16)],.cons _ _ _ (.c _ _ (.own _ _ rfl)) (.cons _ _ _ .same (.cons _ _ _ .same (.cons _ _ _ .same (.cons _ _ _ .same .nil)))),.old 16 16 _ _ _ rfl rfl (.data_eq rfl) .nil,rfl⟩
   ·rintro⟨⟨m,j⟩,hI⟩
    have hml:m.length=l.length:=hI.srt.len
    have hja:a<=j:=hI.ja
    have hji:j<=i:=hI.ji
    show ABr (decide ((j:Int)>(a:Int))) _ _
    refine⟨fun(h:decide ((j:Int)>(a:Int))=true)=>?_,fun(h:decide ((j:Int)>(a:Int))=false)=>?_⟩
    ·have hgt:a<j:=by simp at h;omega
     have hw:=ziV (i:=j) (by omega) (by omega)
     show AOb ((0:Int)<=(j:Int)/\(j:Int)<(m.length:Int)) _
     refine⟨by omega,?_⟩
     show AOb ((j:Int).toNat<m.length) _
     refine⟨by omega,?_⟩
     show AOb ((0:Int)<=IntKind.i64.wrap ((j:Int)-1)/\IntKind.i64.wrap ((j:Int)-1)<(m.length:Int)) _
     refine⟨by rw[hw];omega,?_⟩
     show AOb ((IntKind.i64.wrap ((j:Int)-1)).toNat<m.length) _
     refine⟨by rw[hw];omega,?_⟩
     show ADCall ..
     refine .mk [] _ (zmQ (at0 m j) (at0 m (IntKind.i64.wrap ((j:Int)-1)).toNat)) rfl ?_
     have e1:(IntKind.i64.wrap ((j:Int)-1)).toNat=j-1:=by rw[hw];omega
     rw[e1]
     show ABr (decide (at0 m j<at0 m (j-1))) _ _
     refine⟨fun h2=>?_,fun h2=>?_⟩
     ·have hlt2:at0 m j<at0 m (j-1):=by simpa using h2
      show AOb ((0:Int)<=_/\_<((List.length (α:=Int) _:Nat):Int)) _
      refine⟨by dsimp only;(try rw[hw]);(try simp only[List.length_set]);omega,?_⟩
      show AOb (_<List.length (α:=Int) _) _
      refine⟨by dsimp only;(try rw[hw]);(try simp only[List.length_set]);omega,?_⟩
      show AOb ((0:Int)<=_/\_<((List.length (α:=Int) _:Nat):Int)) _
      refine⟨by dsimp only;(try rw[hw]);(try simp only[List.length_set]);omega,?_⟩
      show AOb (_<List.length (α:=Int) _) _
      refine⟨by dsimp only;(try rw[hw]);(try simp only[List.length_set]);omega,?_⟩
      show AOb ((0:Int)<=_/\_<((List.length (α:=Int) _:Nat):Int)) _
      refine⟨by dsimp only;(try rw[hw]);(try simp only[List.length_set]);omega,?_⟩
      show AOb (_<List.length (α:=Int) _) _
      refine⟨by dsimp only;(try rw[hw]);(try simp only[List.length_set]);omega,?_⟩
      show AOb ((0:Int)<=IntKind.i64.wrap ((j:Int)-1)/\IntKind.i64.wrap ((j:Int)-1)<((m.set (j:Int).toNat (at0 m (IntKind.i64.wrap ((j:Int)-1)).toNat)).length:Int)) _
      refine⟨by rw[hw];simp only[List.length_set];omega,?_⟩
      show AOb ((IntKind.i64.wrap ((j:Int)-1)).toNat<(m.set (j:Int).toNat (at0 m (IntKind.i64.wrap ((j:Int)-1)).toNat)).length) _
      refine⟨by rw[hw];simp only[List.length_set];omega,?_⟩
      show ARound ..
      refine⟨⟨(swp m j (j-1),j-1),hI.step hgt hlt hbl hlt2⟩,by show j-1<j;omega,[(16,16)],.cons _ _ _ (.c _ _ (.own _ _ rfl)) (.cons _ _ _ .same (.cons _ _ _ .same (.cons _ _ _ .same (.cons _ _ _ (.int_eq hw) .nil)))),.old 16 16 _ _ _ rfl rfl (.data_eq ?_) .nil,rfl⟩
      show(m.set j (at0 m (IntKind.i64.wrap ((j:Int)-1)).toNat)).set (IntKind.i64.wrap ((j:Int)-1)).toNat (at0 m j)=_
      rw[e1]
      rfl
     ·have hge:at0 m (j-1)<=at0 m j:=by simpa using h2
      show ARound ..
      exact⟨⟨(m,i+1),hI.srt,by show a<i+1;omega,.inl hlt,hI.done (.inr hge)⟩,by show b-(i+1)<b-i;omega,[(16,16)],.cons _ _ _ (.c _ _ (.own _ _ rfl)) (.cons _ _ _ .same (.cons _ _ _ .same (.cons _ _ _ (.int_eq (zP (by omega))) .nil))),.old 16 16 _ _ _ rfl rfl (.data_eq rfl) .nil,rfl⟩
    ·have hja2:j=a:=by simp at h;omega
     show ABr ..
     refine⟨fun hx=>absurd hx (by decide),fun _=>?_⟩
     show ARound ..
     exact⟨⟨(m,i+1),hI.srt,by show a<i+1;omega,.inl hlt,hI.done (.inl hja2)⟩,by show b-(i+1)<b-i;omega,[(16,16)],.cons _ _ _ (.c _ _ (.own _ _ rfl)) (.cons _ _ _ .same (.cons _ _ _ .same (.cons _ _ _ (.int_eq (zP (by omega))) .nil))),.old 16 16 _ _ _ rfl rfl (.data_eq rfl) .nil,rfl⟩
  ·show ARet ..
   refine⟨[(16,16)],zcL m,[],.nil,.old 16 16 _ _ _ rfl rfl (.data_eq rfl) .nil,rfl,rfl,m,rfl,hs,?_⟩
   have:¬i<b:=by simpa using h
   rcases hib with h1|h1
   ·have:i=b:=by omega
    exact this▸hso
   ·intro p q h2 h3 h4;omega
theorem zqv (n:Int):0<=IntKind.u64.wrap n/\IntKind.u64.wrap n<=18446744073709551615:=by
 unfold IntKind.wrap
 simp[IntKind.bits,IntKind.signed]
 omega
theorem zrP (l:List Int) (hl:l.length<=12) (lim:Int):Spec X 129 (zcL l) [.c (.own 16),.int 0,.int l.length,.int lim] (zlD l 0 l.length):=by
 refine zGO X_ok Tryz.f129 fun hb hH=>⟨rfl,?_⟩
 show ∃n,_
 refine⟨1,.next ?_⟩
 have hw:IntKind.i64.wrap ((l.length:Int)-0)=(l.length:Int):=by rw[zu (by omega) (by omega)];omega
 show ABr (decide (IntKind.i64.wrap ((l.length:Int)-0)<=12)) _ _
 refine⟨fun _=>?_,fun h=>absurd h (by rw[hw];simp;omega)⟩
 show ACall ..
 refine .hand [(16,16)] (zcL l) [.c (.own 16),.int (0:Nat),.int l.length] (zlD l 0 l.length) (.cons _ _ _ _ (.c _ _ (.own _ _ rfl)) (.cons _ _ _ _ .same (.cons _ _ _ _ .same .nil))) (.old 16 16 _ _ _ rfl rfl (.data_eq rfl) .nil) rfl (zu1 l 0 l.length (Nat.zero_le _) (Nat.le_refl _)) ?_
 rintro H r ⟨rfl,l',rfl,h1,h2⟩ _ _
 refine⟨rfl,.inr ⟨rfl,rfl⟩,?_⟩
 show ARet ..
 exact⟨[(16,16)],zcL l',[],.nil,.old 16 16 _ _ _ rfl rfl (.data_eq rfl) .nil,rfl,rfl,l',rfl,h1,h2⟩
theorem zgd (l:List Int) (hl:l.length<=12):Spec X 90 (zcL l) [.c (.own 16)] (zlD l 0 l.length):=by
 refine zGO X_ok Tryz.f90 fun hb hH=>⟨rfl,?_⟩
 show ACall ..
 refine .mk _ (zuT (IntKind.u64.wrap l.length) (zqv _).1 (zqv _).2) ?_
 rintro H r ⟨rfl,n,_,_,rfl⟩ _ _
 refine⟨.inl rfl,?_⟩
 show ACall ..
 refine .hand [(16,16)] (zcL l) [.c (.own 16),.int 0,.int l.length,.int n] (zlD l 0 l.length) (.cons _ _ _ _ (.c _ _ (.own _ _ rfl)) (.cons _ _ _ _ .same (.cons _ _ _ _ .same (.cons _ _ _ _ .same .nil)))) (.old 16 16 _ _ _ rfl rfl (.data_eq rfl) .nil) rfl (zrP l hl n) ?_
 rintro H r ⟨rfl,l',rfl,h1,h2⟩ _ _
 refine⟨rfl,.inr ⟨rfl,rfl⟩,?_⟩
 show ARet ..
 exact⟨[(16,16)],zcL l',[],.nil,.old 16 16 _ _ _ rfl rfl (.data_eq rfl) .nil,rfl,rfl,l',rfl,h1,h2⟩
def clsW (c:Int):Int:=if c=0 then 2 else if c=1 then 4 else if c=2 then 8 else 0
def clsN (c:Int):Int:=if c=0 then 8 else if c=1 then 4 else if c=2 then 2 else 0
def zC (n:Int):Int:=if n<1\/n>63 then 0 else if n<=1 then 0 else if n<=3 then 1 else if n<=7 then 2 else 3
def zap (n:Int):Int:=if n<1 then 1 else if n>63 then 2 else 0
def zaD (n:Int):Int:=if zap n≠0 then 0 else if zC n<3 then 0 else n / 16+1
def zdI (n:Int):Int:=if zap n≠0 then zap n else if zC n<3 then 3 else 0
theorem zjT (c:Int):Spec X 141 [] [.int c] (Ret [] (.int (clsW c))):=by
 refine zGO X_ok Tryz.f141 fun hb hH=>⟨rfl,?_⟩
 show ABr (bif decide (c<0) then true else decide (c>=3)) _ _
 refine⟨fun h=>?_,fun h=>?_⟩
 ·show ARet ..
  refine zaA (x:=0) ?_ ⟨rfl,rfl⟩
  simp at h
  unfold clsW
  repeat (split;omega)
  rfl
 ·have hc:c=0\/c=1\/c=2:=by simp at h;omega
  show AOb ..
  refine⟨by constructor<;>(rcases hc with rfl|rfl|rfl<;>decide),?_⟩
  rcases hc with rfl|rfl|rfl
  ·show ARet ..
   exact zaA (x:=2) rfl ⟨rfl,rfl⟩
  ·show ARet ..
   exact zaA (x:=4) rfl ⟨rfl,rfl⟩
  ·show ARet ..
   exact zaA (x:=8) rfl ⟨rfl,rfl⟩
theorem zjK (c:Int):Spec X 142 [] [.int c] (Ret [] (.int (clsN c))):=by
 refine zGO X_ok Tryz.f142 fun hb hH=>⟨rfl,?_⟩
 show ACall ..
 refine za (zjT c) rfl ?_
 show ABr (decide (clsW c=0)) _ _
 refine⟨fun h=>?_,fun h=>?_⟩
 ·show ARet ..
  refine zaA (x:=0) ?_ ⟨rfl,rfl⟩
  simp[clsW]at h
  unfold clsN
  split
  ·simp_all
  ·split
   ·simp_all
   ·split
    ·simp_all
    ·rfl
 ·show AOb ..
  refine⟨by simpa using h,?_⟩
  show ARet ..
  refine zaA (x:=IntKind.i64.wrap ((16:Int).tdiv (clsW c))) ?_ ⟨rfl,rfl⟩
  unfold clsN
  unfold clsW at h ⊢
  split
  ·rfl
  ·split
   ·rfl
   ·split
    ·rfl
    ·simp_all
def zs8 (x:Int):Int:=if x<=2 then 0 else if x<=4 then 1 else if x<=8 then 2 else 3
def BsQ (i:Int):zh->TV->Prop:=fun H r=>H=[]/\∃b:Bool,r = .tup [.int i,.bo b]
theorem zo7 (x:Int):Spec X 183 [] [.int x] (Ret [] (.bo false)):=by
 refine zGO X_ok Tryz.f183 fun hb hH=>⟨rfl,?_⟩
 show ARet ..
 refine zo (x:=!decide (x=x)) ?_ ⟨rfl,rfl⟩
 simp
theorem zx6 {a:Nat} (h:a<=2*zA):IntKind.i64.wrap ((IntKind.u64.wrap (a:Int)).fdiv (2 ^ min (Int.toNat 1) IntKind.u64.bits))=((a / 2:Nat):Int):=by
 have e:(2:Int) ^ min (Int.toNat 1) IntKind.u64.bits=2:=by decide
 rw[e]
 unfold zA at h
 have e1:IntKind.u64.wrap (a:Int)=(a:Int):=by
  unfold IntKind.wrap
  simp[IntKind.bits,IntKind.signed]
  omega
 rw[e1,Int.fdiv_eq_ediv_of_nonneg _ (by omega),zu (by omega) (by omega)]
 omega
def BsP (l:List Int) (x:Int) (i:Nat):Prop:=i<=l.length/\(∀j,j<i->at0 l j<x)/\∀j,i<=j->j<l.length->x<=at0 l j
theorem zvE (l:List Int) (x:Int) (hs:∀i j,i<=j->j<l.length->at0 l i<=at0 l j):Spec X 137 [] [.c (.d (.sl .int l)),.int x] (fun H r=>∃i,BsP l x i/\BsQ (i:Int) H r):=by
 refine zGO X_ok Tryz.f137 fun hb hH=>⟨rfl,?_⟩
 have hla:l.length<=zA:=(hb (.c (.d (.sl .int l))) (by simp)).1
 unfold zA at hla
 show ∃n,_
 refine⟨0,ALoop.inv (ι:={p:Nat×Nat // p.1<=p.2/\p.2<=l.length/\(∀j,j<p.1->at0 l j<x)/\∀j,p.2<=j->j<l.length->x<=at0 l j}) (fun p=>⟨[(0,.c (.d (.sl .int l))),(1,.int x),(6,.int l.length),(7,.int p.1.1),(8,.int p.1.2)],[],32⟩) (fun p=>p.1.2-p.1.1) ⟨(0,l.length),Nat.zero_le _,Nat.le_refl _,fun j hj=>by omega,fun j h1 h2=>by have h1:l.length<=j:=h1;omega⟩ ?_ ?_⟩
 ·exact⟨[],.cons _ _ _ .same (.cons _ _ _ .same (.cons _ _ _ .same (.cons _ _ _ .same (.cons _ _ _ .same .nil)))),.nil,rfl⟩
 ·rintro⟨⟨a,b⟩,hab,hbl,hlo,hhi⟩
  have hab:a<=b:=hab
  have hbl:b<=l.length:=hbl
  have hlo:∀j,j<a->at0 l j<x:=hlo
  have hhi:∀j,b<=j->j<l.length->x<=at0 l j:=hhi
  show ABr (decide ((a:Int)<(b:Int))) _ _
  refine⟨fun h=>?_,fun h=>?_⟩
  ·have hlt:a<b:=by simpa using h
   have hw:IntKind.i64.wrap ((IntKind.u64.wrap (IntKind.i64.wrap ((a:Int)+b))).fdiv (2 ^ min (Int.toNat 1) IntKind.u64.bits))=(((a+b) / 2:Nat):Int):=by
    rw[zu (n:=(a:Int)+b) (by omega) (by omega)]
    exact zx6 (a:=a+b) (by unfold zA;omega)
   show AOb ((0:Int)<=1) _
   refine⟨by decide,?_⟩
   show AOb (0<=IntKind.i64.wrap ((IntKind.u64.wrap (IntKind.i64.wrap ((a:Int)+b))).fdiv (2 ^ min (Int.toNat 1) IntKind.u64.bits))/\IntKind.i64.wrap ((IntKind.u64.wrap (IntKind.i64.wrap ((a:Int)+b))).fdiv (2 ^ min (Int.toNat 1) IntKind.u64.bits))<(l.length:Int)) _
   refine⟨by rw[hw];omega,?_⟩
   show ACall ..
   refine za (zmQ _ _) rfl ?_
   show ABr (decide (at0 l (IntKind.i64.wrap ((IntKind.u64.wrap (IntKind.i64.wrap ((a:Int)+b))).fdiv (2 ^ min (Int.toNat 1) IntKind.u64.bits))).toNat<x)) _ _
   refine⟨fun h=>?_,fun h=>?_⟩
   ·rw[hw]at h
    rw[show(((a+b) / 2:Nat):Int).toNat=(a+b) / 2 from rfl]at h
    have h:at0 l ((a+b) / 2)<x:=of_decide_eq_true h
    show ARound ..
    refine⟨⟨((a+b) / 2+1,b),by show(a+b) / 2+1<=b;omega,hbl,fun j hj=>?_,hhi⟩,by show b-((a+b) / 2+1)<b-a;omega,[],.cons _ _ _ .same (.cons _ _ _ .same (.cons _ _ _ .same (.cons _ _ _ (.int_eq ?_) (.cons _ _ _ .same .nil)))),.nil,rfl⟩
    ·have hj:j<(a+b) / 2+1:=hj
     have:=hs j ((a+b) / 2) (by omega) (by omega)
     omega
    ·rw[hw,zu (by omega) (by omega)]
     show((((a+b) / 2:Nat):Int)+1)=(((a+b) / 2+1:Nat):Int)
     omega
   ·rw[hw]at h
    rw[show(((a+b) / 2:Nat):Int).toNat=(a+b) / 2 from rfl]at h
    have h:x<=at0 l ((a+b) / 2):=Int.not_lt.1 (of_decide_eq_false h)
    show ARound ..
    refine⟨⟨(a,(a+b) / 2),by show a<=(a+b) / 2;omega,by show(a+b) / 2<=l.length;omega,hlo,fun j hj h2=>?_⟩,by show(a+b) / 2-a<b-a;omega,[],.cons _ _ _ .same (.cons _ _ _ .same (.cons _ _ _ .same (.cons _ _ _ .same (.cons _ _ _ (.int_eq hw) .nil)))),.nil,rfl⟩
    have hj:(a+b) / 2<=j:=hj
    have:=hs ((a+b) / 2) j hj h2
    omega
  ·have heq:a=b:=by simp at h;omega
   subst heq
   have fin:∀(v:Bool),(fun H r=>∃i,BsP l x i/\BsQ (i:Int) H r) [] (.tup [.int (a:Int),.bo v]):=fun v=>⟨a,⟨hbl,hlo,hhi⟩,rfl,v,rfl⟩
   show AOb (decide ((a:Int)<(l.length:Int))=true/\True->(0:Int)<=(a:Int)/\(a:Int)<(l.length:Int)) _
   refine⟨fun h=>by simp at h;omega,?_⟩
   show AOb ((at0 l (a:Int).toNat==x)=false/\decide ((a:Int)<(l.length:Int))=true/\True->(0:Int)<=(a:Int)/\(a:Int)<(l.length:Int)) _
   refine⟨fun h=>by have:=h.2.1;simp at this;omega,?_⟩
   show AIf ..
   refine⟨fun h=>?_,fun h=>?_⟩
   ·show ACall ..
    refine za (zo7 _) rfl ?_
    show AIf ..
    refine⟨fun h=>absurd h.1 (by decide),fun _=>?_⟩
    show AOb (false=false) _
    refine⟨rfl,?_⟩
    show ARet ..
    exact zg rfl (fin _)
   ·show AOb (decide ((a:Int)<(l.length:Int))=true/\True->(at0 l (a:Int).toNat==x)=true) _
    refine⟨fun h2=>?_,?_⟩
    ·cases hq:at0 l (a:Int).toNat==x with
     |true=>rfl
     |false=>exact absurd ⟨hq,h2.1,trivial⟩ h
    show ARet ..
    exact zg rfl (fin _)
theorem zyt (x:Int) {i:Nat} (h:BsP ([2,4,8]:List Int) x i):(i:Int)=zs8 x:=by
 obtain⟨h1,h2,h3⟩:=h
 have h1:i<=3:=h1
 unfold zs8
 have e0:at0 ([2,4,8]:List Int) 0=2:=rfl
 have e1:at0 ([2,4,8]:List Int) 1=4:=rfl
 have e2:at0 ([2,4,8]:List Int) 2=8:=rfl
 have hi:i=0\/i=1\/i=2\/i=3:=by omega
 have g:∀j,j<3->(j<i->at0 ([2,4,8]:List Int) j<x)/\(i<=j->x<=at0 ([2,4,8]:List Int) j):=fun j hj=>⟨h2 j,fun h=>h3 j h hj⟩
 have g0:=g 0 (by omega)
 have g1:=g 1 (by omega)
 have g2:=g 2 (by omega)
 rw[e0]at g0
 rw[e1]at g1
 rw[e2]at g2
 rcases hi with rfl|rfl|rfl|rfl<;>simp at g0 g1 g2<;>(repeat (split<;>try omega))
theorem zuv:∀i j,i<=j->j<([2,4,8]:List Int).length->at0 ([2,4,8]:List Int) i<=at0 ([2,4,8]:List Int) j:=by
 intro i j hij hj
 have hj:j<3:=hj
 have hj' : j=0\/j=1\/j=2:=by omega
 have hi' : i=0\/i=1\/i=2:=by omega
 have e0:at0 ([2,4,8]:List Int) 0=2:=rfl
 have e1:at0 ([2,4,8]:List Int) 1=4:=rfl
 have e2:at0 ([2,4,8]:List Int) 2=8:=rfl
 rcases hj' with rfl|rfl|rfl<;>rcases hi' with rfl|rfl|rfl<;>first|omega|(rw[e0,e1];omega)|(rw[e0,e2];omega)|(rw[e1,e2];omega)|(exact Int.le_refl _)
theorem ziJ (n:Int):Spec X 101 [] [.int n] (Ret [] (.tup [.int (zC n),.int (zap n)])):=by
 refine zGO X_ok Tryz.f101 fun hb hH=>⟨rfl,?_⟩
 show ABr (decide (n<1)) _ _
 refine⟨fun h=>?_,fun h=>?_⟩
 ·have h:n<1:=by simpa using h
  have e1:zC n=0:=by unfold zC;rw[if_pos (.inl h)]
  have e2:zap n=1:=by unfold zap;rw[if_pos h]
  rw[e1,e2]
  show ARet ..
  exact zg rfl ⟨rfl,rfl⟩
 ·have h1:¬n<1:=by simpa using h
  show ABr (decide (n>63)) _ _
  refine⟨fun h=>?_,fun h=>?_⟩
  ·have h:n>63:=by simpa using h
   have e1:zC n=0:=by unfold zC;rw[if_pos (.inr h)]
   have e2:zap n=2:=by unfold zap;rw[if_neg h1,if_pos h]
   rw[e1,e2]
   show ARet ..
   exact zg rfl ⟨rfl,rfl⟩
  ·have h2:¬n>63:=by simpa using h
   have e1:zC n=zs8 (n+1):=by
    unfold zC zs8
    rw[if_neg (fun h=>h.elim h1 h2)]
    repeat (split<;>try omega)
    all_goals (repeat (split<;>try omega))
   have e2:zap n=0:=by unfold zap;rw[if_neg h1,if_neg h2]
   rw[e1,e2]
   have hw:IntKind.i64.wrap (n+1)=n+1:=zu (by omega) (by omega)
   show ACall ..
   refine .mk _ (zvE ([2,4,8]:List Int) (IntKind.i64.wrap (n+1)) zuv) ?_
   rintro H r ⟨i,hp,rfl,b,rfl⟩ _ _
   refine⟨.inr ⟨rfl,rfl⟩,?_⟩
   rw[hw]at hp
   show ARet _ _ [.int (i:Int),.int 0]
   rw[zyt _ hp]
   exact zg rfl ⟨rfl,rfl⟩
theorem znb (n:Int) (hn:n<=9223372036854775807):Spec X 100 [] [.int n] (Ret [] (.tup [.int (zaD n),.int (zdI n)])):=by
 refine zGO X_ok Tryz.f100 fun hb hH=>⟨rfl,?_⟩
 show ACall ..
 refine za (ziJ n) rfl ?_
 show ABr (zap n != 0) _ _
 refine⟨fun h=>?_,fun h=>?_⟩
 ·have h:zap n≠0:=by simpa using h
  have e1:zaD n=0:=by unfold zaD;rw[if_pos h]
  have e2:zdI n=zap n:=by unfold zdI;rw[if_pos h]
  rw[e1,e2]
  show ARet ..
  exact zg rfl ⟨rfl,rfl⟩
 ·have h0:zap n=0:=by simpa using h
  have hr:1<=n/\n<=63:=by unfold zap at h0;split at h0;cases h0;split at h0;cases h0;omega
  show ABr (decide (zC n<3)) _ _
  refine⟨fun h=>?_,fun h=>?_⟩
  ·have h:zC n<3:=by simpa using h
   have e1:zaD n=0:=by unfold zaD;rw[if_neg (fun h=>h h0),if_pos h]
   have e2:zdI n=3:=by unfold zdI;rw[if_neg (fun h=>h h0),if_pos h]
   rw[e1,e2]
   show ARet ..
   exact zg rfl ⟨rfl,rfl⟩
  ·have h:¬zC n<3:=by simpa using h
   have e1:zaD n=n / 16+1:=by unfold zaD;rw[if_neg (fun h=>h h0),if_neg h]
   have e2:zdI n=0:=by unfold zdI;rw[if_neg (fun h=>h h0),if_neg h]
   rw[e1,e2]
   show AOb ..
   refine⟨by decide,?_⟩
   show ARet _ _ [.int (IntKind.i64.wrap (IntKind.i64.wrap (n.tdiv 16)+1)),.int 0]
   have e3:IntKind.i64.wrap (IntKind.i64.wrap (n.tdiv 16)+1)=n / 16+1:=by
    rw[Int.tdiv_eq_ediv_of_nonneg (by omega),zu (n:=n / 16) (by omega) (by omega),zu (by omega) (by omega)]
   rw[e3]
   exact zg rfl ⟨rfl,rfl⟩
theorem zeM (c:Int):Spec X 127 [] [.int c] (Ret [] (.int (clsW c))):=by
 refine zGO X_ok Tryz.f127 fun hb hH=>⟨rfl,?_⟩
 unfold clsW
 show ABr (decide (c=0)) _ _
 refine⟨fun h=>?_,fun h=>?_⟩
 ·rw[if_pos (by simpa using h)]
  show ARet ..
  exact zg rfl ⟨rfl,rfl⟩
 ·rw[if_neg (by simpa using h)]
  show ABr (decide (c=1)) _ _
  refine⟨fun h=>?_,fun h=>?_⟩
  ·rw[if_pos (by simpa using h)]
   show ARet ..
   exact zg rfl ⟨rfl,rfl⟩
  ·rw[if_neg (by simpa using h)]
   show ABr (decide (c=2)) _ _
   refine⟨fun h=>?_,fun h=>?_⟩
   ·rw[if_pos (by simpa using h)]
    show ARet ..
    exact zg rfl ⟨rfl,rfl⟩
   ·rw[if_neg (by simpa using h)]
    show ARet ..
    exact zg rfl ⟨rfl,rfl⟩
theorem zqa (n:Int):Spec X 168 [] [.int n] (Ret [] (.tup [.int (zC n),.int (zap n)])):=by
 refine zGO X_ok Tryz.f168 fun hb hH=>⟨rfl,?_⟩
 show ABr (decide (n<1)) _ _
 refine⟨fun h=>?_,fun h=>?_⟩
 ·have h:n<1:=by simpa using h
  have e1:zC n=0:=by unfold zC;rw[if_pos (.inl h)]
  have e2:zap n=1:=by unfold zap;rw[if_pos h]
  rw[e1,e2]
  show ARet ..
  exact zg rfl ⟨rfl,rfl⟩
 ·have h1:¬n<1:=by simpa using h
  show ABr (decide (n>63)) _ _
  refine⟨fun h=>?_,fun h=>?_⟩
  ·have h:n>63:=by simpa using h
   have e1:zC n=0:=by unfold zC;rw[if_pos (.inr h)]
   have e2:zap n=2:=by unfold zap;rw[if_neg h1,if_pos h]
   rw[e1,e2]
   show ARet ..
   exact zg rfl ⟨rfl,rfl⟩
  ·have h2:¬n>63:=by simpa using h
   have e2:zap n=0:=by unfold zap;rw[if_neg h1,if_neg h2]
   have hw:IntKind.i64.wrap (n+1)=n+1:=zu (by omega) (by omega)
   rw[e2]
   have hc:∀ {b:Bool},True:=trivial
   show ∃n,_
   refine⟨4,.next ?_⟩
   refine zYE (by decide) ?_
   show ACall ..
   refine za (zeM 0) rfl ?_
   show ABr (decide (clsW 0>=IntKind.i64.wrap (n+1))) _ _
   refine⟨fun h=>?_,fun h=>?_⟩
   ·rw[hw]at h
    have h:2>=n+1:=of_decide_eq_true h
    rw[show zC n=0 from by unfold zC;rw[if_neg (fun h=>h.elim h1 h2),if_pos (by omega)]]
    show ARet ..
    exact zg rfl ⟨rfl,rfl⟩
   ·rw[hw]at h
    have h3:¬2>=n+1:=of_decide_eq_false h
    show ALoop ..
    refine .next ?_
    refine zYE (by decide) ?_
    show ACall ..
    refine za (zeM 1) rfl ?_
    show ABr (decide (clsW 1>=IntKind.i64.wrap (n+1))) _ _
    refine⟨fun h=>?_,fun h=>?_⟩
    ·rw[hw]at h
     have h:4>=n+1:=of_decide_eq_true h
     rw[show zC n=1 from by unfold zC;rw[if_neg (fun h=>h.elim h1 h2),if_neg (by omega),if_pos (by omega)]]
     show ARet ..
     exact zg rfl ⟨rfl,rfl⟩
    ·rw[hw]at h
     have h4:¬4>=n+1:=of_decide_eq_false h
     show ALoop ..
     refine .next ?_
     refine zYE (by decide) ?_
     show ACall ..
     refine za (zeM 2) rfl ?_
     show ABr (decide (clsW 2>=IntKind.i64.wrap (n+1))) _ _
     refine⟨fun h=>?_,fun h=>?_⟩
     ·rw[hw]at h
      have h:8>=n+1:=of_decide_eq_true h
      rw[show zC n=2 from by unfold zC;rw[if_neg (fun h=>h.elim h1 h2),if_neg (by omega),if_neg (by omega),if_pos (by omega)]]
      show ARet ..
      exact zg rfl ⟨rfl,rfl⟩
     ·rw[hw]at h
      have h5:¬8>=n+1:=of_decide_eq_false h
      show ALoop ..
      refine .next ?_
      refine zNO (by decide) ?_
      rw[show zC n=3 from by unfold zC;rw[if_neg (fun h=>h.elim h1 h2),if_neg (by omega),if_neg (by omega),if_neg (by omega)]]
      show ARet ..
      exact zg rfl ⟨rfl,rfl⟩
theorem ztQ (n:Int):Spec X 169 [] [.int n] (Ret [] (.tup [.int (zaD n),.int (zdI n)])):=by
 refine zGO X_ok Tryz.f169 fun hb hH=>⟨rfl,?_⟩
 show ACall ..
 refine za (zqa n) rfl ?_
 show ABr (zap n != 0) _ _
 refine⟨fun h=>?_,fun h=>?_⟩
 ·have h:zap n≠0:=by simpa using h
  have e1:zaD n=0:=by unfold zaD;rw[if_pos h]
  have e2:zdI n=zap n:=by unfold zdI;rw[if_pos h]
  rw[e1,e2]
  show ARet ..
  exact zg rfl ⟨rfl,rfl⟩
 ·have h0:zap n=0:=by simpa using h
  have hr:1<=n/\n<=63:=by unfold zap at h0;split at h0;cases h0;split at h0;cases h0;omega
  show ABr (decide (zC n<3)) _ _
  refine⟨fun h=>?_,fun h=>?_⟩
  ·have h:zC n<3:=by simpa using h
   have e1:zaD n=0:=by unfold zaD;rw[if_neg (fun h=>h h0),if_pos h]
   have e2:zdI n=3:=by unfold zdI;rw[if_neg (fun h=>h h0),if_pos h]
   rw[e1,e2]
   show ARet ..
   exact zg rfl ⟨rfl,rfl⟩
  ·have h:¬zC n<3:=by simpa using h
   have e1:zaD n=n / 16+1:=by unfold zaD;rw[if_neg (fun h=>h h0),if_neg h]
   have e2:zdI n=0:=by unfold zdI;rw[if_neg (fun h=>h h0),if_neg h]
   rw[e1,e2]
   have hw:IntKind.i64.wrap (n+1)=n+1:=zu (by omega) (by omega)
   show ∃n,_
   refine⟨0,ALoop.inv (ι:={i:Nat // (i:Int)<=n / 16+1}) (fun i=>⟨[(0,.int n),(6,.int i.1)],[],32⟩) (fun i=>100-i.1) ⟨0,by show(0:Int)<=n / 16+1;omega⟩ ?_ ?_⟩
   ·exact⟨[],.cons _ _ _ .same (.cons _ _ _ .same .nil),.nil,rfl⟩
   ·rintro⟨i,hi⟩
    have hi:(i:Int)<=n / 16+1:=hi
    have hm:IntKind.i64.wrap (16*(i:Int))=16*i:=zu (by omega) (by omega)
    show ABr (decide (IntKind.i64.wrap (16*(i:Int))<IntKind.i64.wrap (n+1))) _ _
    refine⟨fun h=>?_,fun h=>?_⟩
    ·rw[hw,hm]at h
     have h:16*(i:Int)<n+1:=of_decide_eq_true h
     show ARound ..
     exact⟨⟨i+1,by show((i+1:Nat):Int)<=n / 16+1;omega⟩,by show 100-(i+1)<100-i;omega,[],.cons _ _ _ .same (.cons _ _ _ (.int_eq (zP (i:=i) (by unfold zA;omega))) .nil),.nil,rfl⟩
    ·rw[hw,hm]at h
     have h:¬16*(i:Int)<n+1:=of_decide_eq_false h
     show ARet _ _ [.int (i:Int),.int 0]
     rw[show(i:Int)=n / 16+1 from by omega]
     exact zg rfl ⟨rfl,rfl⟩
def Hd.zero:Hd:=⟨false,false,false,0,0,0⟩
def Hd.May (h:Hd):Prop:=if h.used=true then (0<=h.n/\h.n<=63)/\(0<=h.born/\h.born<=1048576)/\0<=h.mark/\h.mark<=1048576 else h=Hd.zero
instance (h:Hd):Decidable h.May:=by unfold Hd.May;infer_instance
def b2i (b:Bool):Int:=if b=true then 1 else 0
def Hd.word (h:Hd):Int:=b2i h.used+2*b2i h.old+4*b2i h.done+8*h.n+1024*h.born+4294967296*h.mark
def zfv (w:Int):Hd:=⟨decide (w % 2=1),decide (w / 2 % 2=1),decide (w / 4 % 2=1),w / 8 % 128,w / 1024 % 4194304,w / 4294967296⟩
def unp (w:Int):Hd:=if (zfv w).May then zfv w else Hd.zero
def zfN (w:Int):Bool:=decide (zfv w).May
theorem zg4 (w:Int):(zfv w).word=w:=by
 unfold Hd.word zfv b2i
 simp only[decide_eq_true_eq]
 have h1:(if w % 2=1 then (1:Int) else 0)=w % 2:=by split<;>omega
 have h2:(if w / 2 % 2=1 then (1:Int) else 0)=w / 2 % 2:=by split<;>omega
 have h3:(if w / 4 % 2=1 then (1:Int) else 0)=w / 4 % 2:=by split<;>omega
 rw[h1,h2,h3]
 omega
theorem ztP {h:Hd} (hm:h.May):zfv h.word=h:=by
 obtain⟨u,o,d,n,b,m⟩:=h
 unfold Hd.May at hm
 simp only at hm
 cases u with
 |false=>
  rw[if_neg (by simp)]at hm
  rw[hm]
  decide
 |true=>
  rw[if_pos rfl]at hm
  have ho:b2i o=0\/b2i o=1:=by cases o<;>simp[b2i]
  have hd:b2i d=0\/b2i d=1:=by cases d<;>simp[b2i]
  have e:(⟨true,o,d,n,b,m⟩:Hd).word=1+2*b2i o+4*b2i d+8*n+1024*b+4294967296*m:=rfl
  rw[e]
  unfold zfv
  have e1:decide ((1+2*b2i o+4*b2i d+8*n+1024*b+4294967296*m) % 2=1)=true:=by simp;omega
  have e2:decide ((1+2*b2i o+4*b2i d+8*n+1024*b+4294967296*m) / 2 % 2=1)=o:=by
   cases o
   ·simp only[b2i]at ho hd ⊢;simp;rcases hd with hd|hd<;>(cases d<;>simp[b2i]at hd ⊢<;>omega)
   ·simp only[b2i]at ho hd ⊢;simp;(cases d<;>simp<;>omega)
  have e3:decide ((1+2*b2i o+4*b2i d+8*n+1024*b+4294967296*m) / 4 % 2=1)=d:=by
   cases d
   ·simp;(cases o<;>simp[b2i]<;>omega)
   ·simp;(cases o<;>simp[b2i]<;>omega)
  rw[e1,e2,e3]
  congr 1<;>omega
theorem zkV {h:Hd} (hm:h.May):0<=h.word/\h.word<=4503600701112832:=by
 obtain⟨u,o,d,n,b,m⟩:=h
 unfold Hd.May at hm
 simp only at hm
 cases u with
 |false=>
  rw[if_neg (by simp)]at hm
  rw[hm]
  decide
 |true=>
  rw[if_pos rfl]at hm
  show 0<=1+2*b2i o+4*b2i d+8*n+1024*b+4294967296*m/\1+2*b2i o+4*b2i d+8*n+1024*b+4294967296*m<=_
  have ho:b2i o=0\/b2i o=1:=by cases o<;>simp[b2i]
  have hd:b2i d=0\/b2i d=1:=by cases d<;>simp[b2i]
  omega
theorem zbJ (w:Int):((BitVec.ofInt 64 w).toNat:Int)=w % 18446744073709551616:=by
 rw[BitVec.toNat_ofInt]
 simp
 omega
theorem znm (x k:Nat):x &&& 2 ^ k=if x.testBit k=true then 2 ^ k else 0:=by
 apply Nat.eq_of_testBit_eq
 intro i
 rw[Nat.testBit_and,Nat.testBit_two_pow]
 by_cases h:k=i
 ·subst h
  split
  ·rename_i h;simp[h]
  ·rename_i h;simp[h]
 ·split
  ·rw[Nat.testBit_two_pow];simp[h]
  ·simp[h]
theorem zxV (w:Int):IntKind.i64.wrap ((BitVec.ofInt IntKind.i64.bits w &&& BitVec.ofInt IntKind.i64.bits 127).toNat)=w % 128:=by
 have h:=zbJ w
 have e2:(BitVec.ofInt IntKind.i64.bits w &&& BitVec.ofInt IntKind.i64.bits 127).toNat=(BitVec.ofInt 64 w).toNat % 2 ^ 7:=by
  show(BitVec.ofInt 64 w &&& BitVec.ofInt 64 127).toNat=_
  rw[BitVec.toNat_and]
  exact Nat.and_two_pow_sub_one_eq_mod _ 7
 rw[e2,zu (by omega) (by omega)]
 omega
theorem zyq (w:Int):IntKind.i64.wrap ((BitVec.ofInt IntKind.i64.bits w &&& BitVec.ofInt IntKind.i64.bits 4194303).toNat)=w % 4194304:=by
 have h:=zbJ w
 have e2:(BitVec.ofInt IntKind.i64.bits w &&& BitVec.ofInt IntKind.i64.bits 4194303).toNat=(BitVec.ofInt 64 w).toNat % 2 ^ 22:=by
  show(BitVec.ofInt 64 w &&& BitVec.ofInt 64 4194303).toNat=_
  rw[BitVec.toNat_and]
  exact Nat.and_two_pow_sub_one_eq_mod _ 22
 rw[e2,zu (by omega) (by omega)]
 omega
theorem zyF (w:Int):(IntKind.i64.wrap ((BitVec.ofInt IntKind.i64.bits w &&& BitVec.ofInt IntKind.i64.bits 1).toNat) != 0)=decide (w % 2=1):=by
 have h:=zbJ w
 have e2:(BitVec.ofInt IntKind.i64.bits w &&& BitVec.ofInt IntKind.i64.bits 1).toNat=if (BitVec.ofInt 64 w).toNat.testBit 0=true then 2 ^ 0 else 0:=by
  show(BitVec.ofInt 64 w &&& BitVec.ofInt 64 1).toNat=_
  rw[BitVec.toNat_and]
  exact znm _ 0
 rw[e2,Nat.testBit_eq_decide_div_mod_eq]
 by_cases hb:(BitVec.ofInt 64 w).toNat / 2 ^ 0 % 2=1
 ·rw[if_pos (decide_eq_true hb),decide_eq_true (by omega:w % 2=1)];decide
 ·rw[if_neg (by simpa using hb),decide_eq_false (by omega:¬w % 2=1)];decide
theorem zyE (w:Int):(IntKind.i64.wrap ((BitVec.ofInt IntKind.i64.bits w &&& BitVec.ofInt IntKind.i64.bits 2).toNat) != 0)=decide (w / 2 % 2=1):=by
 have h:=zbJ w
 have e2:(BitVec.ofInt IntKind.i64.bits w &&& BitVec.ofInt IntKind.i64.bits 2).toNat=if (BitVec.ofInt 64 w).toNat.testBit 1=true then 2 ^ 1 else 0:=by
  show(BitVec.ofInt 64 w &&& BitVec.ofInt 64 2).toNat=_
  rw[BitVec.toNat_and]
  exact znm _ 1
 rw[e2,Nat.testBit_eq_decide_div_mod_eq]
 by_cases hb:(BitVec.ofInt 64 w).toNat / 2 ^ 1 % 2=1
 ·rw[if_pos (decide_eq_true hb),decide_eq_true (by omega:w / 2 % 2=1)];decide
 ·rw[if_neg (by simpa using hb),decide_eq_false (by omega:¬w / 2 % 2=1)];decide
theorem zyG (w:Int):(IntKind.i64.wrap ((BitVec.ofInt IntKind.i64.bits w &&& BitVec.ofInt IntKind.i64.bits 4).toNat) != 0)=decide (w / 4 % 2=1):=by
 have h:=zbJ w
 have e2:(BitVec.ofInt IntKind.i64.bits w &&& BitVec.ofInt IntKind.i64.bits 4).toNat=if (BitVec.ofInt 64 w).toNat.testBit 2=true then 2 ^ 2 else 0:=by
  show(BitVec.ofInt 64 w &&& BitVec.ofInt 64 4).toNat=_
  rw[BitVec.toNat_and]
  exact znm _ 2
 rw[e2,Nat.testBit_eq_decide_div_mod_eq]
 by_cases hb:(BitVec.ofInt 64 w).toNat / 2 ^ 2 % 2=1
 ·rw[if_pos (decide_eq_true hb),decide_eq_true (by omega:w / 4 % 2=1)];decide
 ·rw[if_neg (by simpa using hb),decide_eq_false (by omega:¬w / 4 % 2=1)];decide
theorem zkO (k:Nat) (hk:k<=62) {a b:Int} (ha:0<=a) (hak:a<(2 ^ k:Nat)) (hb:0<=b) (c:Nat) (hbc:b=((2 ^ k*c:Nat):Int)) (hs:a+b<9223372036854775808) :
  IntKind.i64.wrap ((BitVec.ofInt IntKind.i64.bits a ||| BitVec.ofInt IntKind.i64.bits b).toNat)=a+b:=by
 have h1:=zbJ a
 have h2:=zbJ b
 have hp:2 ^ k<=2 ^ 62:=Nat.pow_le_pow_right (by omega) hk
 have ea:(BitVec.ofInt 64 a).toNat=a.toNat:=by omega
 have eb:(BitVec.ofInt 64 b).toNat=2 ^ k*c:=by omega
 have e:(BitVec.ofInt IntKind.i64.bits a ||| BitVec.ofInt IntKind.i64.bits b).toNat=2 ^ k*c+a.toNat:=by
  show(BitVec.ofInt 64 a ||| BitVec.ofInt 64 b).toNat=_
  rw[BitVec.toNat_or,ea,eb,Nat.or_comm]
  exact(Nat.two_pow_add_eq_or_of_lt (by omega) c).symm
 rw[e,zu (by omega) (by omega)]
 omega
theorem zlr (n high:Int):Spec X 120 [] [.int n,.int high] (Ret [] (.bo (decide (0<=n/\n<=high)))):=by
 refine zGO X_ok Tryz.f120 fun hb hH=>⟨rfl,?_⟩
 show ARet ..
 refine zo (x:=bif decide (n>=0) then decide (n<=high) else false) ?_ ⟨rfl,rfl⟩
 by_cases h:0<=n<;>simp[h]
theorem zjA (b:Bool) (n:Int):Spec X 121 [] [.bo b,.int n] (Ret [] (.int (n*b2i b))):=by
 refine zGO X_ok Tryz.f121 fun hb hH=>⟨rfl,?_⟩
 show ABr (b) _ _
 refine⟨fun h=>?_,fun h=>?_⟩
 ·subst h
  show ARet ..
  refine zaA (x:=n) ?_ ⟨rfl,rfl⟩
  simp[b2i]
 ·subst h
  show ARet ..
  refine zaA (x:=0) ?_ ⟨rfl,rfl⟩
  simp[b2i]
theorem zmI (h:Hd):Spec X 81 [] [h.tv] (Ret [] (.bo (decide h.May))):=by
 refine zGO X_ok Tryz.f81 fun hb hH=>⟨rfl,?_⟩
 obtain⟨u,o,d,n,b,m⟩:=h
 show ABr (!u) _ _
 refine⟨fun h=>?_,fun h=>?_⟩
 ·have hu:u=false:=by simpa using h
  subst hu
  show ARet ..
  refine zo ?_ ⟨rfl,rfl⟩
  show(false==false&&(o==false&&(d==false&&(n==0&&(b==0&&(m==0&&true))))))=_
  have e:(⟨false,o,d,n,b,m⟩:Hd).May↔(o=false/\d=false/\n=0/\b=0/\m=0):=by
   unfold Hd.May Hd.zero
   simp
  have e' : decide (⟨false,o,d,n,b,m⟩:Hd).May=decide (o=false/\d=false/\n=0/\b=0/\m=0):=by rw[decide_eq_decide];exact e
  rw[e']
  by_cases h1:n=0<;>by_cases h2:b=0<;>by_cases h3:m=0<;>cases o<;>cases d<;>simp[h1,h2,h3]
 ·have hu:u=true:=by simpa using h
  subst hu
  have e:(⟨true,o,d,n,b,m⟩:Hd).May↔(0<=n/\n<=63)/\(0<=b/\b<=1048576)/\0<=m/\m<=1048576:=by
   unfold Hd.May
   simp
  have e' : decide (⟨true,o,d,n,b,m⟩:Hd).May=(decide (0<=n/\n<=63)&&(decide (0<=b/\b<=1048576)&&decide (0<=m/\m<=1048576))):=by
   rw[←Bool.decide_and,←Bool.decide_and,decide_eq_decide];exact e
  rw[e']
  show ACall ..
  refine za (zlr n 63) rfl ?_
  show AIf (decide (0<=n/\n<=63)=true/\True) _ _
  refine⟨fun h1=>?_,fun h1=>?_⟩
  ·show ACall ..
   refine za (zlr b 1048576) rfl ?_
   show AIf (decide (0<=b/\b<=1048576)=true/\True) _ _
   refine⟨fun h2=>?_,fun h2=>?_⟩
   ·show ACall ..
    refine za (zlr m 1048576) rfl ?_
    show ARet ..
    refine zo (x:=decide (0<=m/\m<=1048576)) ?_ ⟨rfl,rfl⟩
    rw[h1.1,h2.1]
    rfl
   ·have h2:decide (0<=b/\b<=1048576)=false:=Bool.eq_false_iff.2 fun h=>h2 ⟨h,trivial⟩
    show AOb (decide (0<=b/\b<=1048576)=false) _
    refine⟨h2,?_⟩
    show ARet ..
    refine zo (x:=false) ?_ ⟨rfl,rfl⟩
    rw[h2]
    simp
  ·have h1:decide (0<=n/\n<=63)=false:=Bool.eq_false_iff.2 fun h=>h1 ⟨h,trivial⟩
   show AOb (decide (0<=n/\n<=63)=false) _
   refine⟨h1,?_⟩
   show AIf (false=true/\True) _ _
   refine⟨fun h=>absurd h.1 (by simp),fun _=>?_⟩
   show AOb (false=false) _
   refine⟨rfl,?_⟩
   show ARet ..
   refine zo (x:=false) ?_ ⟨rfl,rfl⟩
   rw[h1]
   rfl
theorem zrw {n:Int} {k:Nat} {m:Int} (hm:(2:Int) ^ (min (k:Int).toNat IntKind.i64.bits)=m) (h0:0<=n) (h1:n*m<9223372036854775808) (hm0:0<=m):IntKind.i64.wrap (n*2 ^ (min (k:Int).toNat IntKind.i64.bits))=n*m:=by
 rw[hm]
 have:=Int.mul_nonneg h0 hm0
 exact zu (by omega) h1
def orr (a b:Int):Int:=IntKind.i64.wrap ((BitVec.ofInt IntKind.i64.bits a ||| BitVec.ofInt IntKind.i64.bits b).toNat)
theorem zly (h:Hd) (hm:h.May):Spec X 82 [] [h.tv] (Ret [] (.int h.word)):=by
 refine zGO X_ok Tryz.f82 fun hb hH=>⟨rfl,?_⟩
 obtain⟨u,o,d,n,b,m⟩:=h
 have hr:(0<=n/\n<=63)/\(0<=b/\b<=1048576)/\0<=m/\m<=1048576:=by
  unfold Hd.May at hm
  simp only at hm
  cases u with
  |true=>rw[if_pos rfl]at hm;exact hm
  |false=>rw[if_neg (by simp)]at hm;injection hm with _ _ _ e1 e2 e3;subst e1 e2 e3;omega
 have hbu:b2i u=0\/b2i u=1:=by cases u<;>simp[b2i]
 have hbo:b2i o=0\/b2i o=1:=by cases o<;>simp[b2i]
 have hbd:b2i d=0\/b2i d=1:=by cases d<;>simp[b2i]
 show ADCall ..
 refine .mk _ _ (zjA u 1) rfl ?_
 show ADCall ..
 refine .mk _ _ (zjA o 2) rfl ?_
 show ADCall ..
 refine .mk _ _ (zjA d 4) rfl ?_
 show AOb ..
 refine⟨by decide,?_⟩
 show AOb ..
 refine⟨by decide,?_⟩
 show AOb ..
 refine⟨by decide,?_⟩
 show ARet ..
 refine zaA (x:=orr (orr (orr (orr (orr (1*b2i u) (2*b2i o)) (4*b2i d)) (IntKind.i64.wrap (n*2 ^ (min ((3:Nat):Int).toNat IntKind.i64.bits)))) (IntKind.i64.wrap (b*2 ^ (min ((10:Nat):Int).toNat IntKind.i64.bits)))) (IntKind.i64.wrap (m*2 ^ (min ((32:Nat):Int).toNat IntKind.i64.bits)))) ?_ ⟨rfl,rfl⟩
 rw[zrw (k:=3) (m:=8) (by decide) (by omega) (by omega) (by omega),zrw (k:=10) (m:=1024) (by decide) (by omega) (by omega) (by omega),zrw (k:=32) (m:=4294967296) (by decide) (by omega) (by omega) (by omega)]
 have e1:orr (1*b2i u) (2*b2i o)=b2i u+2*b2i o:=by
  have:=zkO 1 (by omega) (a:=1*b2i u) (b:=2*b2i o) (by omega) (by omega) (by omega) (b2i o).toNat (by omega) (by omega)
  unfold orr;rw[this];omega
 have e2:orr (b2i u+2*b2i o) (4*b2i d)=b2i u+2*b2i o+4*b2i d:=zkO 2 (by omega) (by omega) (by omega) (by omega) (b2i d).toNat (by omega) (by omega)
 have e3:orr (b2i u+2*b2i o+4*b2i d) (n*8)=b2i u+2*b2i o+4*b2i d+n*8:=zkO 3 (by omega) (by omega) (by omega) (by omega) n.toNat (by omega) (by omega)
 have e4:orr (b2i u+2*b2i o+4*b2i d+n*8) (b*1024)=b2i u+2*b2i o+4*b2i d+n*8+b*1024:=zkO 10 (by omega) (by omega) (by omega) (by omega) b.toNat (by omega) (by omega)
 have e5:orr (b2i u+2*b2i o+4*b2i d+n*8+b*1024) (m*4294967296)=b2i u+2*b2i o+4*b2i d+n*8+b*1024+m*4294967296:=zkO 32 (by omega) (by omega) (by omega) (by omega) m.toNat (by omega) (by omega)
 rw[e1,e2,e3,e4,e5]
 unfold Hd.word
 simp only
 omega
def zhd (h:Hd):Int:=if h.May then h.word else 0
def zcy (h:Hd):Int:=if h.May then 0 else 1
theorem zli (h:Hd):Spec X 226 [] [h.tv] (Ret [] (.tup [.int (zhd h),.int (zcy h)])):=by
 refine zGO X_ok Tryz.f226 fun hb hH=>⟨rfl,?_⟩
 unfold zhd zcy
 show ACall ..
 refine za (zmI h) rfl ?_
 show ABr (!decide h.May) _ _
 refine⟨fun h1=>?_,fun h1=>?_⟩
 ·have hm:¬h.May:=by simpa using h1
  rw[if_neg hm,if_neg hm]
  show ARet ..
  exact zg rfl ⟨rfl,rfl⟩
 ·have hm:h.May:=by simpa using h1
  rw[if_pos hm,if_pos hm]
  show ACall ..
  refine za (zly h hm) rfl ?_
  show ARet ..
  exact zg rfl ⟨rfl,rfl⟩
def ztL (a b:Int):Int:=IntKind.i64.wrap ((BitVec.ofInt IntKind.i64.bits a &&& BitVec.ofInt IntKind.i64.bits b).toNat)
def zwg (a:Int) (k:Nat):Int:=a.fdiv (2 ^ (min (k:Int).toNat IntKind.i64.bits))
def ziu (w:Int):Hd:=⟨ztL w 1 != 0,ztL w 2 != 0,ztL w 4 != 0,ztL (zwg w 3) 127,ztL (zwg w 10) 4194303,zwg w 32⟩
theorem znB {w:Int} {k:Nat} {m:Int} (hm:(2:Int) ^ (min (k:Int).toNat IntKind.i64.bits)=m) (h:0<=m):zwg w k=w / m:=by
 unfold zwg
 rw[hm,Int.fdiv_eq_ediv_of_nonneg _ h]
theorem zvs (w:Int):ziu w=zfv w:=by
 unfold ziu zfv
 rw[znB (k:=3) (m:=8) (by decide) (by omega),znB (k:=10) (m:=1024) (by decide) (by omega),znB (k:=32) (m:=4294967296) (by decide) (by omega)]
 unfold ztL
 rw[zyF,zyE,zyG,zxV,zyq]
theorem ziP (w:Int):Spec X 39 [] [.int w] (Ret [] (.tup [(unp w).tv,.bo (zfN w)])):=by
 refine zGO X_ok Tryz.f39 fun hb hH=>⟨rfl,?_⟩
 have hr:=zvs w
 show AOb ..
 refine⟨by decide,?_⟩
 show AOb ..
 refine⟨by decide,?_⟩
 show AOb ..
 refine⟨by decide,?_⟩
 show ACall ..
 refine za (zmI (ziu w)) rfl ?_
 unfold unp zfN
 rw[←hr]
 show AIf ((!decide (ziu w).May)=false/\True) _ _
 refine⟨fun h1=>?_,fun h1=>?_⟩
 ·have hm:(ziu w).May:=by simpa using h1.1
  show ACall ..
  refine za (zly (ziu w) hm) rfl ?_
  have ew:(ziu w).word=w:=by rw[hr];exact zg4 w
  rw[if_pos hm]
  rw[decide_eq_true hm]
  show ABr ((ziu w).word != w) _ _
  rw[ew]
  refine zNO (by simp) ?_
  show ARet ..
  exact zg rfl ⟨rfl,rfl⟩
 ·have hm:¬(ziu w).May:=fun hm=>h1 ⟨by simp[hm],trivial⟩
  rw[if_neg hm]
  rw[decide_eq_false hm]
  show AOb ..
  refine⟨by decide,?_⟩
  refine zYE (by decide) ?_
  show ARet ..
  exact zg rfl ⟨rfl,rfl⟩
theorem zwx {u o d:Bool} {n b m:Int} (hn:¬n<0) (hn' : ¬n>63) (hb:¬b<0) (hb' : ¬b>1048576) (hm:¬m<0) (hm' : ¬m>1048576) :
  (⟨u,o,d,n,b,m⟩:Hd).May↔(u=true\/(o=false/\d=false/\n=0/\b=0/\m=0)):=by
 unfold Hd.May Hd.zero
 cases u
 ·simp
 ·simp;omega
theorem zjv {h:Hd} (hm:h.May):(0<=h.n/\h.n<=63)/\(0<=h.born/\h.born<=1048576)/\0<=h.mark/\h.mark<=1048576:=by
 obtain⟨u,o,d,n,b,m⟩:=h
 unfold Hd.May Hd.zero at hm
 cases u
 ·simp at hm;simp;omega
 ·simpa using hm
theorem zr5 (h:Hd):Spec X 128 [] [h.tv] (Ret [] (.bo (decide h.May))):=by
 refine zGO X_ok Tryz.f128 fun hb hH=>⟨rfl,?_⟩
 obtain⟨u,o,d,n,b,m⟩:=h
 show ABr ((bif bif bif bif bif decide (n<0) then true else decide (n>63) then true else decide (b<0) then true else decide (b>1048576) then true else decide (m<0) then true else decide (m>1048576))) _ _
 refine⟨fun h=>?_,fun h=>?_⟩
 ·show ARet ..
  refine zo (x:=false) ?_ ⟨rfl,rfl⟩
  symm
  apply decide_eq_false
  intro hm
  have:=zjv hm
  simp only[Bool.cond_eq_if,if_true,Bool.if_true_left,Bool.or_eq_true,decide_eq_true_eq]at h this
  omega
 ·have h' : ¬(n<0\/n>63\/b<0\/b>1048576\/m<0\/m>1048576):=by
   simp at h
   omega
  have e:=zwx (u:=u) (o:=o) (d:=d) (n:=n) (b:=b) (m:=m) (by omega) (by omega) (by omega) (by omega) (by omega) (by omega)
  have e' : decide (⟨u,o,d,n,b,m⟩:Hd).May=decide (u=true\/(o=false/\d=false/\n=0/\b=0/\m=0)):=decide_eq_decide.2 e
  rw[e']
  show ARet ..
  refine zo (x:=bif u then true else (bif (bif (bif (bif !o then !d else false) then n==0 else false) then b==0 else false) then m==0 else false)) ?_ ⟨rfl,rfl⟩
  by_cases h1:n=0<;>by_cases h2:b=0<;>by_cases h3:m=0<;>cases u<;>cases o<;>cases d<;>simp[h1,h2,h3]
theorem zkG (w:Int) (h:w=0):unp w=Hd.zero/\zfN w=true:=by subst h;decide
theorem zuB (w:Int) (h:w<0\/w % 2=0) (h0:w≠0):¬(zfv w).May:=by
 intro hm
 have hw:=zkV hm
 rw[zg4]at hw
 have he:=zg4 w
 unfold Hd.May at hm
 have hu:(zfv w).used=false:=by
  show decide (w % 2=1)=false
  exact decide_eq_false (by omega)
 rw[if_neg (by simp[hu])]at hm
 rw[hm]at he
 exact h0 (he.symm.trans (by decide))
theorem zkb (w:Int):(bif decide (w<0) then true else w.tmod 2==0)=decide (w<0\/w % 2=0):=by
 by_cases h:w<0
 ·simp[h]
 ·rw[Int.tmod_eq_emod_of_nonneg (by omega)]
  by_cases h2:w % 2=0<;>simp[h,h2]
def tdv (w d:Int):Int:=IntKind.i64.wrap (w.tdiv d)
theorem zds {w d:Int} (h:0<=w) (hd:1<=d) (hw:w<9223372036854775808):tdv w d=w / d:=by
 unfold tdv
 rw[Int.tdiv_eq_ediv_of_nonneg h]
 have h1:=Int.ediv_nonneg h (by omega:0<=d)
 have h2:=Int.ediv_le_self d h
 exact zu (by omega) (by omega)
def zi4 (w:Int):Hd:=⟨true,(tdv w 2).tmod 2==1,(tdv w 4).tmod 2==1,(tdv w 8).tmod 128,(tdv w 1024).tmod 4194304,tdv w 4294967296⟩
theorem zus {w:Int} (h:0<w) (ho:w % 2=1) (hw:w<9223372036854775808):zi4 w=zfv w:=by
 unfold zi4 zfv
 have hd (d:Int) (hd:1<=d):0<=w / d:=Int.ediv_nonneg (by omega) (by omega)
 rw[zds (by omega) (by omega) hw,zds (by omega) (by omega) hw,zds (by omega) (by omega) hw,zds (by omega) (by omega) hw,zds (by omega) (by omega) hw,
  Int.tmod_eq_emod_of_nonneg (hd 2 (by omega)),Int.tmod_eq_emod_of_nonneg (hd 4 (by omega)),Int.tmod_eq_emod_of_nonneg (hd 8 (by omega)),Int.tmod_eq_emod_of_nonneg (hd 1024 (by omega)),decide_eq_true ho]
 rfl
theorem zim (w:Int) (hw:w<9223372036854775808):Spec X 86 [] [.int w] (Ret [] (.tup [(unp w).tv,.bo (zfN w)])):=by
 refine zGO X_ok Tryz.f86 fun hb hH=>⟨rfl,?_⟩
 show ABr (w==0) _ _
 refine⟨fun h=>?_,fun h=>?_⟩
 ·have h:w=0:=by simpa using h
  rw[(zkG w h).1,(zkG w h).2]
  show ARet ..
  exact zg rfl ⟨rfl,rfl⟩
 ·have h0:w≠0:=by simpa using h
  show AOb ..
  refine⟨by simp,?_⟩
  show ABr ((bif decide (w<0) then true else w.tmod 2==0)) _ _
  refine⟨fun h=>?_,fun h=>?_⟩
  ·rw[zkb]at h
   have hn:¬(zfv w).May:=zuB w (of_decide_eq_true h) h0
   unfold unp zfN
   rw[if_neg hn,decide_eq_false hn]
   show ARet ..
   exact zg rfl ⟨rfl,rfl⟩
  ·rw[zkb]at h
   have h:=of_decide_eq_false h
   have hr:=zus (w:=w) (by omega) (by omega) hw
   unfold unp zfN
   rw[←hr]
   show AOb ..
   refine⟨by decide,?_⟩
   show AOb ..
   refine⟨by decide,?_⟩
   show AOb ..
   refine⟨by decide,?_⟩
   show AOb ..
   refine⟨by decide,?_⟩
   show AOb ..
   refine⟨by decide,?_⟩
   show AOb ..
   refine⟨by decide,?_⟩
   show AOb ..
   refine⟨by decide,?_⟩
   show AOb ..
   refine⟨by decide,?_⟩
   show AOb ..
   refine⟨by decide,?_⟩
   show ACall ..
   refine za (zr5 (zi4 w)) rfl ?_
   show ABr (!decide (zi4 w).May) _ _
   refine⟨fun h=>?_,fun h=>?_⟩
   ·have hm:¬(zi4 w).May:=by simpa using h
    rw[if_neg hm,decide_eq_false hm]
    show ARet ..
    exact zg rfl ⟨rfl,rfl⟩
   ·have hm:(zi4 w).May:=by simpa using h
    rw[if_pos hm,decide_eq_true hm]
    show ARet ..
    exact zg rfl ⟨rfl,rfl⟩
end Go.Abs
