/- Walks and plain laws: LBase, LTop, LCard, LFacts, WSort, WClass, WHead, WCells1. -/
import Derived.Test.YtlankjlnnimdoaaGreatDoorRows
import Derived.Test.YtlankjlnnimdoaaGreatDoorAbsLaw1
import Derived.Below
import Derived.Carry
import Derived.SizedLaws
import Derived.Test.YtlankjlnnimdoaaGreatDoorTie
import Derived.Test.YtlankjlnnimdoaaGreatDoorCards
import Derived.LaidMore
import Derived.Stop.Joined
import Derived.SevenTiedAt
import Derived.KernelRfl
import Derived.JoinedOf
import Derived.Test.YtlankjlnnimdoaaGreatDoorWLen1
import Derived.Test.YtlankjlnnimdoaaGreatDoorAbsBase1
set_option linter.all false
set_option maxRecDepth 100000
namespace Go.Proofs.YtlankjlnnimdoaaGreatDoor
open Go.ChangeShapes Go.WideShapes Go.ChangeAt Go.RowKit
theorem own:ownKnob Tryz.prog.godebug=none:=by kernel_rfl
theorem zxR:laidOutB Tryz.prog=true:=by kernel_rfl
abbrev isInts (y:Abs.TV):Prop:=∃z:List Int,y = .c (.d (.sl .int z))
abbrev zyo (y:Abs.TV):Prop:=∃n:Int,y = .c (.d (.int n))/\(Lit.int .i64 n).wf=true
theorem zyY:Abs.Opn Tryz.prog 3 zyo:=Abs.Opn.int Tryz.underlying3
end Go.Proofs.YtlankjlnnimdoaaGreatDoor
set_option maxRecDepth 100000
namespace Go.Abs
open Go.ChangeShapes Go.WideShapes Go.RowKit
section
variable {X:Ctx} {w:World}
theorem Rd.pairX (hX:XOk X) {t a:Nat} (hk:(X.ty t).k = .st [(0,a),(1,a)]) (hs:(X.ty t).size=2) (ha:(X.ty a).k = .int .i64) (hok:(X.ty a).ok=true):Rd X.P w t (fun cs=>∃y:Pair,RepL no w (EK.pair.enc y) cs):=by
 have f (i o:Nat) (h:zba [(0,a),(1,a)] i=some (o,a)):=Rd.fieldX (w:=w) hX hk i h hok (Rd.intX hX ha)
 refine Rd.mono (Rd.and (Rd.lenX hX hk) (Rd.and (f 0 0 rfl) (f 1 1 rfl))) ?_
 rintro cs ⟨hl,⟨k,h0,_⟩,⟨x,h1,_⟩⟩
 rw[hs]at hl
 match cs,hl with
 |[c0,c1],_=>
  have e0:=zkm h0;have e1:=zkm h1
  simp at e0 e1
  subst e0 e1
  exact⟨⟨k,x⟩,repL_cons (zl2 _) (repL_cons (zl2 _) repL_nil)⟩
end
end Go.Abs
namespace Go.Proofs.YtlankjlnnimdoaaGreatDoor
open Go.ChangeShapes Go.WideShapes Go.ChangeAt Go.RowKit
theorem zxx (w:World):Abs.Rd Tryz.prog w 23 (fun cs=>∃(l:List Abs.Pair) (v:Value),cs=[v]/\Abs.Rep Abs.no w (.sl .pair l) v):=
 Abs.Rd.sliceX (X:=Abs.X) Abs.X_ok .pair (t:=23) (e:=60) rfl rfl rfl rfl (Abs.Rd.pairX (X:=Abs.X) Abs.X_ok (t:=60) (a:=3) rfl rfl rfl rfl)
abbrev ztF (y:Abs.TV):Prop:=∃z:List Abs.Pair,y = .c (.d (.sl .pair z))
theorem zxh:Abs.Opn Tryz.prog 23 ztF:=Abs.Opn.slice .pair Tryz.underlying23 zxx
theorem zzo (w:World):Abs.Rd Tryz.prog w 43 (fun cs=>∃(l:List Abs.Op) (v:Value),cs=[v]/\Abs.Rep Abs.no w (.sl .op l) v):=
 Abs.Rd.sliceX (X:=Abs.X) Abs.X_ok .op (t:=43) (e:=47) rfl rfl rfl rfl (Abs.Rd.opX (X:=Abs.X) Abs.X_ok (t:=47) (a:=3) rfl rfl rfl rfl)
theorem zyB (w:World):Abs.Rd Tryz.prog w 22 (fun cs=>∃(l:List (List Abs.Op)) (v:Value),cs=[v]/\Abs.Rep Abs.no w (.sl .opss l) v):=
 Abs.Rd.sliceX (X:=Abs.X) Abs.X_ok .opss (t:=22) (e:=43) rfl rfl rfl rfl ((zzo w).mono fun cs ⟨l,v,e,r⟩=>⟨l,by rw[e];exact Abs.repL_cons r Abs.repL_nil⟩)
abbrev zvL (y:Abs.TV):Prop:=∃z:List (List Abs.Op),y = .c (.d (.sl .opss z))
theorem zyg:Abs.Opn Tryz.prog 22 zvL:=Abs.Opn.slice .opss Tryz.underlying22 zyB
end Go.Proofs.YtlankjlnnimdoaaGreatDoor
namespace Go.Proofs.YtlankjlnnimdoaaGreatDoor
open Go.ChangeShapes Go.WideShapes Go.ChangeAt Go.RowKit
abbrev zrk:List (String×DataW Unit):=[("ragpicker/class.words",Rows.laid_ragpicker_class_words)]
theorem zyF:Tryz.prog.globalNamed "ragpicker/class.words" = some 0:=by kernel_rfl
theorem zza:(Tryz.prog.globals[0]?).map (·.type)=some 176:=by kernel_rfl
theorem zvx (os:Os) (args:Array Value):laidMetH Tryz.prog zrk ((World.doorLaid Tryz.prog 400 os).forCall (fun _ _=>0) ⟨#[],args,[]⟩).memory:=
 laidMetH_of_parts3 (fuel:=8) (laidMet_of_run' 8 (by kernel_rfl) (by kernel_rfl)) (by kernel_rfl) (by kernel_rfl)
set_option maxRecDepth 100000 in
theorem zxD {W:World} (h:laidMetH Tryz.prog zrk W):Abs.GOk Abs.X (Abs.OO Abs.nn Abs.no) W:=by
 rw[MakeChecks.laidMetH_plain _ _ _ (by kernel_rfl)]at h
 obtain⟨ps,⟨g0,t0,cs0,f0,p0,q0,hg0,ht0,hv0,hd0,_,_⟩,_,_⟩:=h
 obtain rfl:=Option.some.inj (zyF.symm.trans hg0)
 obtain rfl:=Option.some.inj (zza.symm.trans ht0)
 obtain⟨xs,m1,_,hx1,hlen,hn3,hel⟩:=DataW.trod_array Tryz.underlying176 hd0
 have c1:Tryz.prog.cellsOf 3=1:=by kernel_rfl
 have c3:Tryz.prog.cellsOf 176=3:=by kernel_rfl
 rw[c3]at hlen
 have hcell:∀i,W.cell? ⟨0,i,none⟩=cs0.toList[i]?:=fun i=>by rw[World.var?_cell hg0 hv0 i];simp
 generalize cs0.toList=vs at hlen hel hcell
 match vs,hlen with
 |[a,b,c],_=>
  match xs,hn3 with
  |[x0,x1,x2],_=>
   have h0:=hel 0 (by decide)
   have h1:=hel 1 (by decide)
   have h2:=hel 2 (by decide)
   rw[c1]at h0 h1 h2
   obtain⟨k0,e0,f0,_⟩:=DataW.trod_int Tryz.underlying3 (show DataW.trod _ Tryz.prog W 0 _ false m1 3 [a]=some x0 from h0)
   obtain⟨k1,e1,f1,_⟩:=DataW.trod_int Tryz.underlying3 (show DataW.trod _ Tryz.prog W 0 _ false m1 3 [b]=some x1 from h1)
   obtain⟨k2,e2,f2,_⟩:=DataW.trod_int Tryz.underlying3 (show DataW.trod _ Tryz.prog W 0 _ false m1 3 [c]=some x2 from h2)
   subst f0 f1 f2
   simp only[Prod.mk.injEq,List.map_cons,List.map_nil]at hx1
   have hx:=hx1.1
   unfold Rows.laid_ragpicker_class_words at hx
   injection hx with hx
   simp only[List.cons.injEq,DataW.lit.injEq,Lit.int.injEq,true_and,and_true]at hx e0 e1 e2
   obtain⟨rfl,rfl,rfl⟩:=hx
   subst e0 e1 e2
   intro g xs hgx
   have hs:g=0/\xs=[Abs.DV.int 2,Abs.DV.int 4,Abs.DV.int 8]:=by
    have:Abs.look none (Abs.gls.map fun(i,x)=>(i,some x)) g=some xs:=hgx
    simp only[Abs.gls,List.map_cons,List.map_nil,Abs.look]at this
    cases hb:Nat.beq 0 g with
    |false=>rw[hb]at this;cases this
    |true=>
     rw[hb]at this
     exact⟨(Nat.eq_of_beq_eq_true hb).symm,by injection this with e;exact e.symm⟩
   obtain⟨rfl,rfl⟩:=hs
   refine .rp _ _ [.int .i64 2,.int .i64 4,.int .i64 8] (fun _ ho=>?_) rfl rfl (fun i x v hx hv=>?_) fun j v hv=>?_
   ·rcases ho with⟨b,hb⟩|hb
    ·exact hb.elim
    ·exact hb.elim
   ·match i,hx,hv with
    |0,hx,hv=>cases hx;cases hv;exact .lit _ rfl
    |1,hx,hv=>cases hx;cases hv;exact .lit _ rfl
    |2,hx,hv=>cases hx;cases hv;exact .lit _ rfl
    |_+3,hx,hv=>cases hx
   ·show W.cell? ⟨0,0+j,none⟩=some v
    rw[Nat.zero_add,hcell]
    exact hv
end Go.Proofs.YtlankjlnnimdoaaGreatDoor
namespace Go.Proofs.YtlankjlnnimdoaaGreatDoor
theorem zyN:Tryz.pinned.checked.prog.mayEnter=true:=by kernel_rfl
theorem zyJ:(false==Tryz.pinned.checked.prog.liftsFinal)=true:=by kernel_rfl
theorem zzE:(Tryz.pinned.checked.prog.make==some Make.cut)=true:=by kernel_rfl
theorem zzx:Tryz.pinned.checked.prog.mainIs=some (true,"ae9ca4c3943a1593d88c71a03acb0a6ab574f3786b88618b7295976d020b2e7a".toList):=by kernel_rfl
theorem zyG:false=Tryz.pinned.checked.prog.looks []:=by kernel_rfl
theorem zh1 {a b:Bool} (h:a=true) (k:b=true):(a&&b)=true:=by rw[h,k];rfl
end Go.Proofs.YtlankjlnnimdoaaGreatDoor
namespace Go.Abs
open Go.Proofs Go.Proofs.YtlankjlnnimdoaaGreatDoor
theorem zjp:∀f x,Lib.bitLenAux f x<=f
 |0,_=>Nat.le_refl _
 |f+1,x=>by
  unfold Lib.bitLenAux
  split
  ·exact Nat.zero_le _
  ·have:=zjp f (x / 2)
   omega
theorem zsF {X:Ctx} {f:Nat} {args:List TV} {vs:List Value} {Q:zg->TV->Prop} (hok:zfP X.P f) (hargs:∀N S w us,zbn N S w args us->us=vs) (h:∀w,Calls X.P f vs.toArray w fun e w'=>∃v,e = .returned v/\w' = w/\v.oneCell' = true/\Q [] (.lit v)):Spec X f [] args Q:=
 ⟨hok,fun N S w us hnr hh hu hg ha=>by
  rw[hargs N S w us ha]
  refine(h w).mono ?_
  rintro e w' ⟨v,rfl,rfl,h1,hq⟩
  exact⟨v,N,[],_,rfl,hq,hnr,fun b x hx=>(by cases hx),hu,zV h1,.refl _ _,fun _ _ h=>h,fun _ _=>.inr (.inl rfl)⟩⟩
theorem zwa (x:Int) (h0:0<=x) (h1:x<=18446744073709551615):Spec X 130 [] [.lit (.int .u64 x)] (fun H r=>H=[]/\∃n:Int,0<=n/\n<=64/\r = .int n):=by
 refine zsF (vs:=[.int .u64 x]) ⟨Tryz.f130,by kernel_rfl,by kernel_rfl,by kernel_rfl⟩ (fun N S w us ha=>?_) fun w=>(zwl x w h0 h1).mono ?_
 ·match us,ha with
  |[u],ha=>rw[zI (ha.2 0 _ u rfl rfl)]
  |[],ha=>exact absurd ha.1 (by simp)
  |_::_::_,ha=>exact absurd ha.1 (by simp)
 ·rintro e w' ⟨rfl,rfl⟩
  exact⟨_,rfl,rfl,rfl,rfl,_,by omega,by have:=zjp 64 x.toNat;unfold Lib.bitLen;omega,rfl⟩
theorem zd (l:List Int) (h:l.length<=zk):Spec X 63 [] [.c (.d (.sl .int l))] (Ret [] (.c (.d (.sl .int l)))):=by
 refine zGO X_ok Tryz.f63 fun hb _=>⟨rfl,?_⟩
 intro b (hnil:b=true->l=[])
 show ABr ..
 refine⟨fun hb=>?_,fun hb=>?_⟩
 ·show ARet ..
  exact zgL (.nilsl (hnil hb)) ⟨rfl,rfl⟩
 ·show AOb (0+l.length<=zk) _
  refine⟨by omega,?_⟩
  show ARet ..
  exact zgL (.frz rfl rfl) ⟨rfl,rfl⟩
theorem zac (l:List Page) (h:l.length<=zk):Spec X 64 [] [.c (.d (.sl .page l))] (Ret [] (.c (.d (.sl .page l)))):=by
 refine zGO X_ok Tryz.f64 fun hb _=>⟨rfl,?_⟩
 intro b (hnil:b=true->l=[])
 show ABr ..
 refine⟨fun hb=>?_,fun hb=>?_⟩
 ·show ARet ..
  exact zgL (.nilsl (hnil hb)) ⟨rfl,rfl⟩
 ·show AOb (0+l.length<=zk) _
  refine⟨by omega,?_⟩
  show ARet ..
  exact zgL (.frz rfl rfl) ⟨rfl,rfl⟩
theorem zah (l:List Bool) (h:l.length<=zk):Spec X 65 [] [.c (.d (.sl .bool l))] (Ret [] (.c (.d (.sl .bool l)))):=by
 refine zGO X_ok Tryz.f65 fun hb _=>⟨rfl,?_⟩
 intro b (hnil:b=true->l=[])
 show ABr ..
 refine⟨fun hb=>?_,fun hb=>?_⟩
 ·show ARet ..
  exact zgL (.nilsl (hnil hb)) ⟨rfl,rfl⟩
 ·show AOb (0+l.length<=zk) _
  refine⟨by omega,?_⟩
  show ARet ..
  exact zgL (.frz rfl rfl) ⟨rfl,rfl⟩
theorem zck (l:List Op) (h:l.length<=zk):Spec X 34 [] [.c (.d (.sl .op l))] (Ret [] (.c (.d (.sl .op l)))):=by
 refine zGO X_ok Tryz.f34 fun hb _=>⟨rfl,?_⟩
 intro b (hnil:b=true->l=[])
 show ABr ..
 refine⟨fun hb=>?_,fun hb=>?_⟩
 ·show ARet ..
  exact zgL (.nilsl (hnil hb)) ⟨rfl,rfl⟩
 ·show AOb (0+l.length<=zk) _
  refine⟨by omega,?_⟩
  show ARet ..
  exact zgL (.frz rfl rfl) ⟨rfl,rfl⟩
theorem zhB (a b:List Int):Spec X 31 [] [.c (.d (.sl .int a)),.c (.d (.sl .int b))] (Ret [] (.bo (decide (a=b)))):=by
 refine zGO X_ok Tryz.f31 fun hb _=>⟨rfl,?_⟩
 have hla:a.length<=zE:=(hb (.c (.d (.sl .int a))) (by simp)).1
 unfold zE at hla
 show ABr ..
 refine⟨fun(h:((a.length:Int) != (b.length:Int))=true)=>?_,fun(h:((a.length:Int) != (b.length:Int))=false)=>?_⟩
 ·show ARet ..
  refine zt ?_ ⟨rfl,rfl⟩
  have:a≠b:=fun e=>by subst e;simp at h
  simp[this]
 ·have hlen:a.length=b.length:=by simp[bne]at h;omega
  refine⟨0,ALoop.inv (ι:={i:Nat // i<=a.length/\a.take i=b.take i}) (fun i=>⟨[(0,.c (.d (.sl .int a))),(1,.c (.d (.sl .int b))),(5,.int i.1)],[],32⟩) (fun i=>a.length-i.1) ⟨0,by simp⟩ ?_ ?_⟩
  ·exact⟨[],.cons _ _ _ .same (.cons _ _ _ .same (.cons _ _ _ .same .nil)),.nil,rfl⟩
  ·rintro⟨i,hi,he⟩
   show ABr ..
   refine⟨fun(h:decide ((i:Int)<(a.length:Int))=true)=>?_,fun(h:decide ((i:Int)<(a.length:Int))=false)=>?_⟩
   ·have hlt:i<a.length:=by simpa using h
    show AOb ((0:Int)<=(i:Int)/\(i:Int)<(a.length:Int)) _
    refine⟨by omega,?_⟩
    show AOb ((0:Int)<=(i:Int)/\(i:Int)<(b.length:Int)) _
    refine⟨by omega,?_⟩
    show ABr (a.getD i 0 != b.getD i 0) _ _
    have h2:i<b.length:=by omega
    refine⟨fun h=>?_,fun h=>?_⟩
    ·show ARet ..
     refine zt ?_ ⟨rfl,rfl⟩
     have:a≠b:=fun e=>by subst e;simp at h
     simp[this]
    ·show ARound ..
     have hab:a.take (i+1)=b.take (i+1):=by
      have hx:a[i]=b[i]:=by simpa [hlt,h2] using h
      rw[List.take_add_one,List.take_add_one,he,List.getElem?_eq_getElem hlt,List.getElem?_eq_getElem h2,hx]
     exact⟨⟨i+1,hlt,hab⟩,Nat.sub_lt_sub_left hlt (Nat.lt_succ_self i),[],.cons _ _ _ .same (.cons _ _ _ .same (.cons _ _ _ (.int_eq (by rw[zB]<;>simp<;>omega)) .nil)),.nil,rfl⟩
   ·show ARet ..
    refine zt ?_ ⟨rfl,rfl⟩
    have hge:i=a.length:=by simp at h;omega
    have:a=b:=by
     have:=he
     rw[hge,List.take_length,hlen,List.take_length]at this
     exact this
    simp[this]
set_option maxRecDepth 8000
def Lists.ok (l:Lists):Prop:=l.l0.length<=zk/\l.l1.length<=zk/\l.l2.length<=zk
theorem Lists.ne {a b:Lists}:a=b↔a.l0=b.l0/\a.l1=b.l1/\a.l2=b.l2:=by cases a;cases b;simp
theorem zts (a b:Lists):Spec X 33 [] [a.tv,b.tv] (Ret [] (.bo (decide (a=b)))):=by
 refine zGO X_ok Tryz.f33 fun _ _=>⟨rfl,?_⟩
 show ∃n,_
 refine⟨4,.next ?_⟩
 show ABr ..
 refine⟨fun _=>?_,fun hb=>absurd hb (by decide)⟩
 show AOb ..
 refine⟨by decide,?_⟩
 show AOb ..
 refine⟨by decide,?_⟩
 show ADCall ..
 refine .mk [] _ (zhB a.l0 b.l0) rfl ?_
 show ABr (!decide (a.l0=b.l0)) _ _
 refine⟨fun h=>?_,fun hl0=>?_⟩
 ·show ARet ..
  refine zt ?_ ⟨rfl,rfl⟩
  rw[eq_comm,decide_eq_false_iff_not,Lists.ne]
  intro e
  simp[e]at h
 show ALoop ..
 refine .next ?_
 show ABr ..
 refine⟨fun _=>?_,fun hb=>absurd hb (by decide)⟩
 show AOb ..
 refine⟨by decide,?_⟩
 show AOb ..
 refine⟨by decide,?_⟩
 show ADCall ..
 refine .mk [] _ (zhB a.l1 b.l1) rfl ?_
 show ABr (!decide (a.l1=b.l1)) _ _
 refine⟨fun h=>?_,fun hl1=>?_⟩
 ·show ARet ..
  refine zt ?_ ⟨rfl,rfl⟩
  rw[eq_comm,decide_eq_false_iff_not,Lists.ne]
  intro e
  simp[e]at h
 show ALoop ..
 refine .next ?_
 show ABr ..
 refine⟨fun _=>?_,fun hb=>absurd hb (by decide)⟩
 show AOb ..
 refine⟨by decide,?_⟩
 show AOb ..
 refine⟨by decide,?_⟩
 show ADCall ..
 refine .mk [] _ (zhB a.l2 b.l2) rfl ?_
 show ABr (!decide (a.l2=b.l2)) _ _
 refine⟨fun h=>?_,fun hl2=>?_⟩
 ·show ARet ..
  refine zt ?_ ⟨rfl,rfl⟩
  rw[eq_comm,decide_eq_false_iff_not,Lists.ne]
  intro e
  simp[e]at h
 show ALoop ..
 refine .next ?_
 show ABr ..
 refine⟨fun hb=>absurd hb (by decide),fun _=>?_⟩
 show ARet ..
 refine zt ?_ ⟨rfl,rfl⟩
 rw[eq_comm,decide_eq_true_iff,Lists.ne]
 simp at hl0 hl1 hl2
 exact⟨hl0,hl1,hl2⟩
theorem zrZ (x:Int):Spec X 225 [] [.int x] (Ret [] (.bo false)):=by
 refine zGO X_ok Tryz.f225 fun _ _=>⟨rfl,?_⟩
 show ARet ..
 refine zt (x:=!decide (x=x)) ?_ ⟨rfl,rfl⟩
 simp
theorem znY (x y:Int):Spec X 177 [] [.int x,.int y] (Ret [] (.bo (decide (x<y)))):=by
 refine zGO X_ok Tryz.f177 fun _ _=>⟨rfl,?_⟩
 show ACall ..
 refine za (zrZ x) rfl ?_
 show AIf ..
 refine⟨fun h=>absurd h.1 (by decide),fun _=>?_⟩
 show AOb ..
 refine⟨rfl,?_⟩
 show ARet ..
 exact zt rfl ⟨rfl,rfl⟩
structure Srt (l l' : List Int) (a b:Nat):Prop where
 len:l'.length=l.length
 out:∀i,(i<a\/b<=i)->l'[i]? = l[i]?
 perm:l'.Perm l
theorem Srt.refl (l:List Int) (a b:Nat):Srt l l a b:=⟨rfl,fun _ _=>rfl,.refl _⟩
theorem Srt.trans {l l' l'' : List Int} {a b:Nat} (h:Srt l l' a b) (h' : Srt l' l'' a b):Srt l l'' a b:=
 ⟨h'.len.trans h.len,fun i hi=>(h'.out i hi).trans (h.out i hi),h'.perm.trans h.perm⟩
def at0 (l:List Int) (i:Nat):Int:=l.getD i 0
theorem ztP (l:List Int) (i k:Nat) (x:Int) (h:i<l.length):at0 (l.set i x) k=if i=k then x else at0 l k:=by
 unfold at0
 rw[List.getD_eq_getElem?_getD,List.getD_eq_getElem?_getD,List.getElem?_set]
 by_cases hk:i=k
 ·subst hk;simp[h]
 ·simp[hk]
def swp (l:List Int) (i j:Nat):List Int:=(l.set i (at0 l j)).set j (at0 l i)
theorem zud (l:List Int) (i j:Nat):(swp l i j).length=l.length:=by simp[swp]
theorem zrO (l:List Int) (i j k:Nat) (hi:i<l.length) (hj:j<l.length):at0 (swp l i j) k=if k=j then at0 l i else if k=i then at0 l j else at0 l k:=by
 unfold swp
 rw[ztP _ _ _ _ (by simpa using hj),ztP _ _ _ _ hi]
 by_cases h1:k=j
 ·subst h1;simp
 ·rw[if_neg (fun e=>h1 e.symm),if_neg h1]
  by_cases h2:k=i
  ·subst h2;simp
  ·rw[if_neg (fun e=>h2 e.symm),if_neg h2]
theorem zxk (l:List Int) (i j:Nat) (hi:i<l.length) (hj:j<l.length):(swp l i j).Perm l:=by
 have e:swp l i j=(l.set i l[j]).set j l[i]:=by
  unfold swp at0
  rw[List.getD_eq_getElem?_getD,List.getD_eq_getElem?_getD,List.getElem?_eq_getElem hi,List.getElem?_eq_getElem hj]
  rfl
 rw[e]
 exact List.set_set_perm hi hj
theorem zxF (l:List Int) (i j a b:Nat) (ha:a<=i) (ha' : a<=j) (hi:i<b) (hj:j<b) (hb:b<=l.length):Srt l (swp l i j) a b:=by
 refine⟨zud l i j,fun k hk=>?_,zxk l i j (by omega) (by omega)⟩
 unfold swp
 rw[List.getElem?_set_ne (by omega),List.getElem?_set_ne (by omega)]
def zkb (l:List Int) (a b:Nat):Prop:=∀i j,a<=i->i<j->j<b->at0 l i<=at0 l j
structure Ins (l m:List Int) (a b i j:Nat):Prop where
 srt:Srt l m a b
 ja:a<=j
 ji:j<=i
 rest:∀p q,a<=p->p<q->q<=i->p≠j->q≠j->at0 m p<=at0 m q
 up:∀q,j<q->q<=i->at0 m j<=at0 m q
theorem Ins.start {l m:List Int} {a b i:Nat} (h:Srt l m a b) (hs:zkb m a i) (hi:a<=i):Ins l m a b i i:=
 ⟨h,hi,Nat.le_refl _,fun p q h1 h2 h3 h4 h5=>hs p q h1 h2 (by omega),fun q h1 h2=>by omega⟩
theorem Ins.step {l m:List Int} {a b i j:Nat} (h:Ins l m a b i j) (hj:a<j) (hb:i<b) (hl:b<=l.length) (hlt:at0 m j<at0 m (j-1)):Ins l (swp m (j) (j-1)) a b i (j-1):=by
 have hlen:=h.srt.len
 have hji:=h.ji
 have hat:=zrO m j (j-1)
 refine⟨h.srt.trans (zxF m j (j-1) a b h.ja (by omega) (by omega) (by omega) (by omega)),by omega,by omega,fun p q h1 h2 h3 h4 h5=>?_,fun q h1 h2=>?_⟩
 ·rw[hat p (by omega) (by omega),hat q (by omega) (by omega),if_neg h4,if_neg h5]
  by_cases hp:p=j
  ·subst hp
   rw[if_pos rfl,if_neg (by omega)]
   exact h.rest (p-1) q (by omega) (by omega) h3 (by omega) (by omega)
  ·rw[if_neg hp]
   by_cases hq:q=j
   ·subst hq
    rw[if_pos rfl]
    exact h.rest p (q-1) h1 (by omega) (by omega) hp (by omega)
   ·rw[if_neg hq]
    exact h.rest p q h1 h2 h3 hp hq
 ·rw[hat (j-1) (by omega) (by omega),if_pos rfl,hat q (by omega) (by omega),if_neg (by omega)]
  by_cases hq:q=j
  ·subst hq;rw[if_pos rfl];omega
  ·rw[if_neg hq];exact h.up q (by omega) h2
theorem Ins.done {l m:List Int} {a b i j:Nat} (h:Ins l m a b i j) (hx:j=a\/at0 m (j-1)<=at0 m j):zkb m a (i+1):=by
 have hja:=h.ja
 intro p q h1 h2 h3
 by_cases hp:p=j
 ·subst hp;exact h.up q h2 (by omega)
 ·by_cases hq:q=j
  ·subst hq
   rcases hx with hx|hx
   ·omega
   ·by_cases hpq:p=q-1
    ·subst hpq;exact hx
    ·exact Int.le_trans (h.rest p (q-1) h1 (by omega) (by omega) hp (by omega)) hx
  ·exact h.rest p q h1 h2 (by omega) hp hq
abbrev zc8 (l:List Int):zg:=[(16,.data .int l)]
def zlO (l:List Int) (a b:Nat):zg->TV->Prop:=fun H r=>r = .tup []/\∃l',H=zc8 l'/\Srt l l' a b/\zkb l' a b
theorem zad {i:Nat} (h:i<=zE):IntKind.i64.wrap ((i:Int)+1)=((i+1:Nat):Int):=by
 unfold zE at h
 rw[zB (by omega) (by omega)];omega
theorem znT {i:Nat} (h:i<=zE) (h0:0<i):IntKind.i64.wrap ((i:Int)-1)=((i-1:Nat):Int):=by
 unfold zE at h
 rw[zB (by omega) (by omega)];omega
theorem zvG (l:List Int) (a b:Nat) (ha:a<=b) (hbl:b<=l.length):Spec X 171 (zc8 l) [.c (.own 16),.int a,.int b] (zlO l a b):=by
 refine zGO X_ok Tryz.f171 fun hb hH=>⟨rfl,?_⟩
 have hmax:l.length<=zE:=hH 16 .int l rfl
 show ∃n,_
 refine⟨0,ALoop.inv (ι:={p:List Int×Nat // Srt l p.1 a b/\a<p.2/\(p.2<=b\/p.2=a+1)/\zkb p.1 a p.2}) (fun p=>⟨[(0,.c (.own 16)),(1,.int a),(2,.int b),(6,.int p.1.2)],[(16,.data .int p.1.1)],64⟩) (fun p=>b-p.1.2) ⟨(l,a+1),Srt.refl _ _ _,Nat.lt_succ_self a,.inr rfl,fun i j h1 h2 h3=>by omega⟩ ?_ ?_⟩
 ·exact⟨[(16,16)],.cons _ _ _ (.c _ _ (.own _ _ rfl)) (.cons _ _ _ .same (.cons _ _ _ .same (.cons _ _ _ (.int_eq (zad (by omega))) .nil))),.old 16 16 _ _ _ rfl rfl (.data_eq rfl) .nil,rfl⟩
 ·rintro⟨⟨m,i⟩,hs,hai,hib,hso⟩
  show ABr ..
  refine⟨fun(h:decide ((i:Int)<(b:Int))=true)=>?_,fun(h:decide ((i:Int)<(b:Int))=false)=>?_⟩
  ·have hlt:i<b:=by simpa using h
   have hml:m.length=l.length:=hs.len
   show ∃n,_
   refine⟨0,ALoop.inv (ι:={p:List Int×Nat // Ins l p.1 a b i p.2}) (fun p=>⟨[(0,.c (.own 16)),(1,.int a),(2,.int b),(6,.int i),(7,.int p.1.2)],[(16,.data .int p.1.1)],64⟩) (fun p=>p.1.2) ⟨(m,i),Ins.start hs hso (by omega)⟩ ?_ ?_⟩
   ·exact⟨[(16,16)],.cons _ _ _ (.c _ _ (.own _ _ rfl)) (.cons _ _ _ .same (.cons _ _ _ .same (.cons _ _ _ .same (.cons _ _ _ .same .nil)))),.old 16 16 _ _ _ rfl rfl (.data_eq rfl) .nil,rfl⟩
   ·rintro⟨⟨m,j⟩,hI⟩
    have hml:m.length=l.length:=hI.srt.len
    have hja:a<=j:=hI.ja
    have hji:j<=i:=hI.ji
    show ABr (decide ((j:Int)>(a:Int))) _ _
    refine⟨fun(h:decide ((j:Int)>(a:Int))=true)=>?_,fun(h:decide ((j:Int)>(a:Int))=false)=>?_⟩
    ·have hgt:a<j:=by simp at h;omega
     have hw:=znT (i:=j) (by omega) (by omega)
     show AOb ((0:Int)<=(j:Int)/\(j:Int)<(m.length:Int)) _
     refine⟨by omega,?_⟩
     show AOb ((j:Int).toNat<m.length) _
     refine⟨by omega,?_⟩
     show AOb ((0:Int)<=IntKind.i64.wrap ((j:Int)-1)/\IntKind.i64.wrap ((j:Int)-1)<(m.length:Int)) _
     refine⟨by rw[hw];omega,?_⟩
     show AOb ((IntKind.i64.wrap ((j:Int)-1)).toNat<m.length) _
     refine⟨by rw[hw];omega,?_⟩
     show ADCall ..
     refine .mk [] _ (znY (at0 m j) (at0 m (IntKind.i64.wrap ((j:Int)-1)).toNat)) rfl ?_
     have e1:(IntKind.i64.wrap ((j:Int)-1)).toNat=j-1:=by rw[hw];omega
     rw[e1]
     show ABr (decide (at0 m j<at0 m (j-1))) _ _
     refine⟨fun h2=>?_,fun h2=>?_⟩
     ·have hlt2:at0 m j<at0 m (j-1):=by simpa using h2
      show AOb ((0:Int)<=_/\_<((List.length (α:=Int) _:Nat):Int)) _
      refine⟨by dsimp only;(try rw[hw]);(try simp only[List.length_set]);omega,?_⟩
      show AOb (_<List.length (α:=Int) _) _
      refine⟨by dsimp only;(try rw[hw]);(try simp only[List.length_set]);omega,?_⟩
      show AOb ((0:Int)<=_/\_<((List.length (α:=Int) _:Nat):Int)) _
      refine⟨by dsimp only;(try rw[hw]);(try simp only[List.length_set]);omega,?_⟩
      show AOb (_<List.length (α:=Int) _) _
      refine⟨by dsimp only;(try rw[hw]);(try simp only[List.length_set]);omega,?_⟩
      show AOb ((0:Int)<=_/\_<((List.length (α:=Int) _:Nat):Int)) _
      refine⟨by dsimp only;(try rw[hw]);(try simp only[List.length_set]);omega,?_⟩
      show AOb (_<List.length (α:=Int) _) _
      refine⟨by dsimp only;(try rw[hw]);(try simp only[List.length_set]);omega,?_⟩
      show AOb ((0:Int)<=IntKind.i64.wrap ((j:Int)-1)/\IntKind.i64.wrap ((j:Int)-1)<((m.set (j:Int).toNat (at0 m (IntKind.i64.wrap ((j:Int)-1)).toNat)).length:Int)) _
      refine⟨by rw[hw];simp only[List.length_set];omega,?_⟩
      show AOb ((IntKind.i64.wrap ((j:Int)-1)).toNat<(m.set (j:Int).toNat (at0 m (IntKind.i64.wrap ((j:Int)-1)).toNat)).length) _
      refine⟨by rw[hw];simp only[List.length_set];omega,?_⟩
      show ARound ..
      refine⟨⟨(swp m j (j-1),j-1),hI.step hgt hlt hbl hlt2⟩,by show j-1<j;omega,[(16,16)],.cons _ _ _ (.c _ _ (.own _ _ rfl)) (.cons _ _ _ .same (.cons _ _ _ .same (.cons _ _ _ .same (.cons _ _ _ (.int_eq hw) .nil)))),.old 16 16 _ _ _ rfl rfl (.data_eq ?_) .nil,rfl⟩
      show(m.set j (at0 m (IntKind.i64.wrap ((j:Int)-1)).toNat)).set (IntKind.i64.wrap ((j:Int)-1)).toNat (at0 m j)=_
      rw[e1]
      rfl
     ·have hge:at0 m (j-1)<=at0 m j:=by simpa using h2
      show ARound ..
      exact⟨⟨(m,i+1),hI.srt,by show a<i+1;omega,.inl hlt,hI.done (.inr hge)⟩,by show b-(i+1)<b-i;omega,[(16,16)],.cons _ _ _ (.c _ _ (.own _ _ rfl)) (.cons _ _ _ .same (.cons _ _ _ .same (.cons _ _ _ (.int_eq (zad (by omega))) .nil))),.old 16 16 _ _ _ rfl rfl (.data_eq rfl) .nil,rfl⟩
    ·have hja2:j=a:=by simp at h;omega
     show ABr ..
     refine⟨fun hx=>absurd hx (by decide),fun _=>?_⟩
     show ARound ..
     exact⟨⟨(m,i+1),hI.srt,by show a<i+1;omega,.inl hlt,hI.done (.inl hja2)⟩,by show b-(i+1)<b-i;omega,[(16,16)],.cons _ _ _ (.c _ _ (.own _ _ rfl)) (.cons _ _ _ .same (.cons _ _ _ .same (.cons _ _ _ (.int_eq (zad (by omega))) .nil))),.old 16 16 _ _ _ rfl rfl (.data_eq rfl) .nil,rfl⟩
  ·show ARet ..
   refine⟨[(16,16)],zc8 m,[],.nil,.old 16 16 _ _ _ rfl rfl (.data_eq rfl) .nil,rfl,rfl,m,rfl,hs,?_⟩
   have:¬i<b:=by simpa using h
   rcases hib with h1|h1
   ·have:i=b:=by omega
    exact this▸hso
   ·intro p q h2 h3 h4;omega
theorem zrw (n:Int):0<=IntKind.u64.wrap n/\IntKind.u64.wrap n<=18446744073709551615:=by
 unfold IntKind.wrap
 simp[IntKind.bits,IntKind.signed]
 omega
theorem zrP (l:List Int) (hl:l.length<=12) (lim:Int):Spec X 129 (zc8 l) [.c (.own 16),.int 0,.int l.length,.int lim] (zlO l 0 l.length):=by
 refine zGO X_ok Tryz.f129 fun hb hH=>⟨rfl,?_⟩
 show ∃n,_
 refine⟨1,.next ?_⟩
 have hw:IntKind.i64.wrap ((l.length:Int)-0)=(l.length:Int):=by rw[zB (by omega) (by omega)];omega
 show ABr (decide (IntKind.i64.wrap ((l.length:Int)-0)<=12)) _ _
 refine⟨fun _=>?_,fun h=>absurd h (by rw[hw];simp;omega)⟩
 show ACall ..
 refine .hand [(16,16)] (zc8 l) [.c (.own 16),.int (0:Nat),.int l.length] (zlO l 0 l.length) (.cons _ _ _ _ (.c _ _ (.own _ _ rfl)) (.cons _ _ _ _ .same (.cons _ _ _ _ .same .nil))) (.old 16 16 _ _ _ rfl rfl (.data_eq rfl) .nil) rfl (zvG l 0 l.length (Nat.zero_le _) (Nat.le_refl _)) ?_
 rintro H r ⟨rfl,l',rfl,h1,h2⟩ _ _
 refine⟨rfl,.inr ⟨rfl,rfl⟩,?_⟩
 show ARet ..
 exact⟨[(16,16)],zc8 l',[],.nil,.old 16 16 _ _ _ rfl rfl (.data_eq rfl) .nil,rfl,rfl,l',rfl,h1,h2⟩
theorem zgs (l:List Int) (hl:l.length<=12):Spec X 90 (zc8 l) [.c (.own 16)] (zlO l 0 l.length):=by
 refine zGO X_ok Tryz.f90 fun hb hH=>⟨rfl,?_⟩
 show ACall ..
 refine .mk _ (zwa (IntKind.u64.wrap l.length) (zrw _).1 (zrw _).2) ?_
 rintro H r ⟨rfl,n,_,_,rfl⟩ _ _
 refine⟨.inl rfl,?_⟩
 show ACall ..
 refine .hand [(16,16)] (zc8 l) [.c (.own 16),.int 0,.int l.length,.int n] (zlO l 0 l.length) (.cons _ _ _ _ (.c _ _ (.own _ _ rfl)) (.cons _ _ _ _ .same (.cons _ _ _ _ .same (.cons _ _ _ _ .same .nil)))) (.old 16 16 _ _ _ rfl rfl (.data_eq rfl) .nil) rfl (zrP l hl n) ?_
 rintro H r ⟨rfl,l',rfl,h1,h2⟩ _ _
 refine⟨rfl,.inr ⟨rfl,rfl⟩,?_⟩
 show ARet ..
 exact⟨[(16,16)],zc8 l',[],.nil,.old 16 16 _ _ _ rfl rfl (.data_eq rfl) .nil,rfl,rfl,l',rfl,h1,h2⟩
def zaR (c:Int):Int:=if c=0 then 2 else if c=1 then 4 else if c=2 then 8 else 0
def zfg (c:Int):Int:=if c=0 then 8 else if c=1 then 4 else if c=2 then 2 else 0
def clsOf (n:Int):Int:=if n<1\/n>63 then 0 else if n<=1 then 0 else if n<=3 then 1 else if n<=7 then 2 else 3
def zaM (n:Int):Int:=if n<1 then 1 else if n>63 then 2 else 0
def zaV (n:Int):Int:=if zaM n≠0 then 0 else if clsOf n<3 then 0 else n / 16+1
def ziZ (n:Int):Int:=if zaM n≠0 then zaM n else if clsOf n<3 then 3 else 0
theorem zkI (c:Int):Spec X 141 [] [.int c] (Ret [] (.int (zaR c))):=by
 refine zGO X_ok Tryz.f141 fun hb hH=>⟨rfl,?_⟩
 show ABr (bif decide (c<0) then true else decide (c>=3)) _ _
 refine⟨fun h=>?_,fun h=>?_⟩
 ·show ARet ..
  refine zaZ (x:=0) ?_ ⟨rfl,rfl⟩
  simp at h
  unfold zaR
  repeat (split;omega)
  rfl
 ·have hc:c=0\/c=1\/c=2:=by simp at h;omega
  show AOb ..
  refine⟨by constructor<;>(rcases hc with rfl|rfl|rfl<;>decide),?_⟩
  rcases hc with rfl|rfl|rfl
  ·show ARet ..
   exact zaZ (x:=2) rfl ⟨rfl,rfl⟩
  ·show ARet ..
   exact zaZ (x:=4) rfl ⟨rfl,rfl⟩
  ·show ARet ..
   exact zaZ (x:=8) rfl ⟨rfl,rfl⟩
theorem zkU (c:Int):Spec X 142 [] [.int c] (Ret [] (.int (zfg c))):=by
 refine zGO X_ok Tryz.f142 fun hb hH=>⟨rfl,?_⟩
 show ACall ..
 refine za (zkI c) rfl ?_
 show ABr (decide (zaR c=0)) _ _
 refine⟨fun h=>?_,fun h=>?_⟩
 ·show ARet ..
  refine zaZ (x:=0) ?_ ⟨rfl,rfl⟩
  simp[zaR]at h
  unfold zfg
  split
  ·simp_all
  ·split
   ·simp_all
   ·split
    ·simp_all
    ·rfl
 ·show AOb ..
  refine⟨by simpa using h,?_⟩
  show ARet ..
  refine zaZ (x:=IntKind.i64.wrap ((16:Int).tdiv (zaR c))) ?_ ⟨rfl,rfl⟩
  unfold zfg
  unfold zaR at h ⊢
  split
  ·rfl
  ·split
   ·rfl
   ·split
    ·rfl
    ·simp_all
def zt4 (x:Int):Int:=if x<=2 then 0 else if x<=4 then 1 else if x<=8 then 2 else 3
def BsQ (i:Int):zg->TV->Prop:=fun H r=>H=[]/\∃b:Bool,r = .tup [.int i,.bo b]
theorem zqq (x:Int):Spec X 183 [] [.int x] (Ret [] (.bo false)):=by
 refine zGO X_ok Tryz.f183 fun hb hH=>⟨rfl,?_⟩
 show ARet ..
 refine zt (x:=!decide (x=x)) ?_ ⟨rfl,rfl⟩
 simp
theorem zyU {a:Nat} (h:a<=2*zE):IntKind.i64.wrap ((IntKind.u64.wrap (a:Int)).fdiv (2 ^ min (Int.toNat 1) IntKind.u64.bits))=((a / 2:Nat):Int):=by
 have e:(2:Int) ^ min (Int.toNat 1) IntKind.u64.bits=2:=by decide
 rw[e]
 unfold zE at h
 have e1:IntKind.u64.wrap (a:Int)=(a:Int):=by
  unfold IntKind.wrap
  simp[IntKind.bits,IntKind.signed]
  omega
 rw[e1,Int.fdiv_eq_ediv_of_nonneg _ (by omega),zB (by omega) (by omega)]
 omega
def BsP (l:List Int) (x:Int) (i:Nat):Prop:=i<=l.length/\(∀j,j<i->at0 l j<x)/\∀j,i<=j->j<l.length->x<=at0 l j
theorem zwS (l:List Int) (x:Int) (hs:∀i j,i<=j->j<l.length->at0 l i<=at0 l j):Spec X 137 [] [.c (.d (.sl .int l)),.int x] (fun H r=>∃i,BsP l x i/\BsQ (i:Int) H r):=by
 refine zGO X_ok Tryz.f137 fun hb hH=>⟨rfl,?_⟩
 have hla:l.length<=zE:=(hb (.c (.d (.sl .int l))) (by simp)).1
 unfold zE at hla
 show ∃n,_
 refine⟨0,ALoop.inv (ι:={p:Nat×Nat // p.1<=p.2/\p.2<=l.length/\(∀j,j<p.1->at0 l j<x)/\∀j,p.2<=j->j<l.length->x<=at0 l j}) (fun p=>⟨[(0,.c (.d (.sl .int l))),(1,.int x),(6,.int l.length),(7,.int p.1.1),(8,.int p.1.2)],[],32⟩) (fun p=>p.1.2-p.1.1) ⟨(0,l.length),Nat.zero_le _,Nat.le_refl _,fun j hj=>by omega,fun j h1 h2=>by have h1:l.length<=j:=h1;omega⟩ ?_ ?_⟩
 ·exact⟨[],.cons _ _ _ .same (.cons _ _ _ .same (.cons _ _ _ .same (.cons _ _ _ .same (.cons _ _ _ .same .nil)))),.nil,rfl⟩
 ·rintro⟨⟨a,b⟩,hab,hbl,hlo,hhi⟩
  have hab:a<=b:=hab
  have hbl:b<=l.length:=hbl
  have hlo:∀j,j<a->at0 l j<x:=hlo
  have hhi:∀j,b<=j->j<l.length->x<=at0 l j:=hhi
  show ABr (decide ((a:Int)<(b:Int))) _ _
  refine⟨fun h=>?_,fun h=>?_⟩
  ·have hlt:a<b:=by simpa using h
   have hw:IntKind.i64.wrap ((IntKind.u64.wrap (IntKind.i64.wrap ((a:Int)+b))).fdiv (2 ^ min (Int.toNat 1) IntKind.u64.bits))=(((a+b) / 2:Nat):Int):=by
    rw[zB (n:=(a:Int)+b) (by omega) (by omega)]
    exact zyU (a:=a+b) (by unfold zE;omega)
   show AOb ((0:Int)<=1) _
   refine⟨by decide,?_⟩
   show AOb (0<=IntKind.i64.wrap ((IntKind.u64.wrap (IntKind.i64.wrap ((a:Int)+b))).fdiv (2 ^ min (Int.toNat 1) IntKind.u64.bits))/\IntKind.i64.wrap ((IntKind.u64.wrap (IntKind.i64.wrap ((a:Int)+b))).fdiv (2 ^ min (Int.toNat 1) IntKind.u64.bits))<(l.length:Int)) _
   refine⟨by rw[hw];omega,?_⟩
   show ACall ..
   refine za (znY _ _) rfl ?_
   show ABr (decide (at0 l (IntKind.i64.wrap ((IntKind.u64.wrap (IntKind.i64.wrap ((a:Int)+b))).fdiv (2 ^ min (Int.toNat 1) IntKind.u64.bits))).toNat<x)) _ _
   refine⟨fun h=>?_,fun h=>?_⟩
   ·rw[hw]at h
    rw[show(((a+b) / 2:Nat):Int).toNat=(a+b) / 2 from rfl]at h
    have h:at0 l ((a+b) / 2)<x:=of_decide_eq_true h
    show ARound ..
    refine⟨⟨((a+b) / 2+1,b),by show(a+b) / 2+1<=b;omega,hbl,fun j hj=>?_,hhi⟩,by show b-((a+b) / 2+1)<b-a;omega,[],.cons _ _ _ .same (.cons _ _ _ .same (.cons _ _ _ .same (.cons _ _ _ (.int_eq ?_) (.cons _ _ _ .same .nil)))),.nil,rfl⟩
    ·have hj:j<(a+b) / 2+1:=hj
     have:=hs j ((a+b) / 2) (by omega) (by omega)
     omega
    ·rw[hw,zB (by omega) (by omega)]
     show((((a+b) / 2:Nat):Int)+1)=(((a+b) / 2+1:Nat):Int)
     omega
   ·rw[hw]at h
    rw[show(((a+b) / 2:Nat):Int).toNat=(a+b) / 2 from rfl]at h
    have h:x<=at0 l ((a+b) / 2):=Int.not_lt.1 (of_decide_eq_false h)
    show ARound ..
    refine⟨⟨(a,(a+b) / 2),by show a<=(a+b) / 2;omega,by show(a+b) / 2<=l.length;omega,hlo,fun j hj h2=>?_⟩,by show(a+b) / 2-a<b-a;omega,[],.cons _ _ _ .same (.cons _ _ _ .same (.cons _ _ _ .same (.cons _ _ _ .same (.cons _ _ _ (.int_eq hw) .nil)))),.nil,rfl⟩
    have hj:(a+b) / 2<=j:=hj
    have:=hs ((a+b) / 2) j hj h2
    omega
  ·have heq:a=b:=by simp at h;omega
   subst heq
   have fin:∀(v:Bool),(fun H r=>∃i,BsP l x i/\BsQ (i:Int) H r) [] (.tup [.int (a:Int),.bo v]):=fun v=>⟨a,⟨hbl,hlo,hhi⟩,rfl,v,rfl⟩
   show AOb (decide ((a:Int)<(l.length:Int))=true/\True->(0:Int)<=(a:Int)/\(a:Int)<(l.length:Int)) _
   refine⟨fun h=>by simp at h;omega,?_⟩
   show AOb ((at0 l (a:Int).toNat==x)=false/\decide ((a:Int)<(l.length:Int))=true/\True->(0:Int)<=(a:Int)/\(a:Int)<(l.length:Int)) _
   refine⟨fun h=>by have:=h.2.1;simp at this;omega,?_⟩
   show AIf ..
   refine⟨fun h=>?_,fun h=>?_⟩
   ·show ACall ..
    refine za (zqq _) rfl ?_
    show AIf ..
    refine⟨fun h=>absurd h.1 (by decide),fun _=>?_⟩
    show AOb (false=false) _
    refine⟨rfl,?_⟩
    show ARet ..
    exact zi rfl (fin _)
   ·show AOb (decide ((a:Int)<(l.length:Int))=true/\True->(at0 l (a:Int).toNat==x)=true) _
    refine⟨fun h2=>?_,?_⟩
    ·cases hq:at0 l (a:Int).toNat==x with
     |true=>rfl
     |false=>exact absurd ⟨hq,h2.1,trivial⟩ h
    show ARet ..
    exact zi rfl (fin _)
theorem zzA (x:Int) {i:Nat} (h:BsP ([2,4,8]:List Int) x i):(i:Int)=zt4 x:=by
 obtain⟨h1,h2,h3⟩:=h
 have h1:i<=3:=h1
 unfold zt4
 have e0:at0 ([2,4,8]:List Int) 0=2:=rfl
 have e1:at0 ([2,4,8]:List Int) 1=4:=rfl
 have e2:at0 ([2,4,8]:List Int) 2=8:=rfl
 have hi:i=0\/i=1\/i=2\/i=3:=by omega
 have g:∀j,j<3->(j<i->at0 ([2,4,8]:List Int) j<x)/\(i<=j->x<=at0 ([2,4,8]:List Int) j):=fun j hj=>⟨h2 j,fun h=>h3 j h hj⟩
 have g0:=g 0 (by omega)
 have g1:=g 1 (by omega)
 have g2:=g 2 (by omega)
 rw[e0]at g0
 rw[e1]at g1
 rw[e2]at g2
 rcases hi with rfl|rfl|rfl|rfl<;>simp at g0 g1 g2<;>(repeat (split<;>try omega))
theorem zuK:∀i j,i<=j->j<([2,4,8]:List Int).length->at0 ([2,4,8]:List Int) i<=at0 ([2,4,8]:List Int) j:=by
 intro i j hij hj
 have hj:j<3:=hj
 have hj' : j=0\/j=1\/j=2:=by omega
 have hi' : i=0\/i=1\/i=2:=by omega
 have e0:at0 ([2,4,8]:List Int) 0=2:=rfl
 have e1:at0 ([2,4,8]:List Int) 1=4:=rfl
 have e2:at0 ([2,4,8]:List Int) 2=8:=rfl
 rcases hj' with rfl|rfl|rfl<;>rcases hi' with rfl|rfl|rfl<;>first|omega|(rw[e0,e1];omega)|(rw[e0,e2];omega)|(rw[e1,e2];omega)|(exact Int.le_refl _)
theorem ziN (n:Int):Spec X 101 [] [.int n] (Ret [] (.tup [.int (clsOf n),.int (zaM n)])):=by
 refine zGO X_ok Tryz.f101 fun hb hH=>⟨rfl,?_⟩
 show ABr (decide (n<1)) _ _
 refine⟨fun h=>?_,fun h=>?_⟩
 ·have h:n<1:=by simpa using h
  have e1:clsOf n=0:=by unfold clsOf;rw[if_pos (.inl h)]
  have e2:zaM n=1:=by unfold zaM;rw[if_pos h]
  rw[e1,e2]
  show ARet ..
  exact zi rfl ⟨rfl,rfl⟩
 ·have h1:¬n<1:=by simpa using h
  show ABr (decide (n>63)) _ _
  refine⟨fun h=>?_,fun h=>?_⟩
  ·have h:n>63:=by simpa using h
   have e1:clsOf n=0:=by unfold clsOf;rw[if_pos (.inr h)]
   have e2:zaM n=2:=by unfold zaM;rw[if_neg h1,if_pos h]
   rw[e1,e2]
   show ARet ..
   exact zi rfl ⟨rfl,rfl⟩
  ·have h2:¬n>63:=by simpa using h
   have e1:clsOf n=zt4 (n+1):=by
    unfold clsOf zt4
    rw[if_neg (fun h=>h.elim h1 h2)]
    repeat (split<;>try omega)
    all_goals (repeat (split<;>try omega))
   have e2:zaM n=0:=by unfold zaM;rw[if_neg h1,if_neg h2]
   rw[e1,e2]
   have hw:IntKind.i64.wrap (n+1)=n+1:=zB (by omega) (by omega)
   show ACall ..
   refine .mk _ (zwS ([2,4,8]:List Int) (IntKind.i64.wrap (n+1)) zuK) ?_
   rintro H r ⟨i,hp,rfl,b,rfl⟩ _ _
   refine⟨.inr ⟨rfl,rfl⟩,?_⟩
   rw[hw]at hp
   show ARet _ _ [.int (i:Int),.int 0]
   rw[zzA _ hp]
   exact zi rfl ⟨rfl,rfl⟩
theorem znI (n:Int) (hn:n<=9223372036854775807):Spec X 100 [] [.int n] (Ret [] (.tup [.int (zaV n),.int (ziZ n)])):=by
 refine zGO X_ok Tryz.f100 fun hb hH=>⟨rfl,?_⟩
 show ACall ..
 refine za (ziN n) rfl ?_
 show ABr (zaM n != 0) _ _
 refine⟨fun h=>?_,fun h=>?_⟩
 ·have h:zaM n≠0:=by simpa using h
  have e1:zaV n=0:=by unfold zaV;rw[if_pos h]
  have e2:ziZ n=zaM n:=by unfold ziZ;rw[if_pos h]
  rw[e1,e2]
  show ARet ..
  exact zi rfl ⟨rfl,rfl⟩
 ·have h0:zaM n=0:=by simpa using h
  have hr:1<=n/\n<=63:=by unfold zaM at h0;split at h0;cases h0;split at h0;cases h0;omega
  show ABr (decide (clsOf n<3)) _ _
  refine⟨fun h=>?_,fun h=>?_⟩
  ·have h:clsOf n<3:=by simpa using h
   have e1:zaV n=0:=by unfold zaV;rw[if_neg (fun h=>h h0),if_pos h]
   have e2:ziZ n=3:=by unfold ziZ;rw[if_neg (fun h=>h h0),if_pos h]
   rw[e1,e2]
   show ARet ..
   exact zi rfl ⟨rfl,rfl⟩
  ·have h:¬clsOf n<3:=by simpa using h
   have e1:zaV n=n / 16+1:=by unfold zaV;rw[if_neg (fun h=>h h0),if_neg h]
   have e2:ziZ n=0:=by unfold ziZ;rw[if_neg (fun h=>h h0),if_neg h]
   rw[e1,e2]
   show AOb ..
   refine⟨by decide,?_⟩
   show ARet _ _ [.int (IntKind.i64.wrap (IntKind.i64.wrap (n.tdiv 16)+1)),.int 0]
   have e3:IntKind.i64.wrap (IntKind.i64.wrap (n.tdiv 16)+1)=n / 16+1:=by
    rw[Int.tdiv_eq_ediv_of_nonneg (by omega),zB (n:=n / 16) (by omega) (by omega),zB (by omega) (by omega)]
   rw[e3]
   exact zi rfl ⟨rfl,rfl⟩
def Hd.zero:Hd:=⟨false,false,false,0,0,0⟩
def Hd.May (h:Hd):Prop:=if h.used=true then (0<=h.n/\h.n<=63)/\(0<=h.born/\h.born<=1048576)/\0<=h.mark/\h.mark<=1048576 else h=Hd.zero
instance (h:Hd):Decidable h.May:=by unfold Hd.May;infer_instance
def b2i (b:Bool):Int:=if b=true then 1 else 0
def Hd.word (h:Hd):Int:=b2i h.used+2*b2i h.old+4*b2i h.done+8*h.n+1024*h.born+4294967296*h.mark
def zjv (w:Int):Hd:=⟨decide (w % 2=1),decide (w / 2 % 2=1),decide (w / 4 % 2=1),w / 8 % 128,w / 1024 % 4194304,w / 4294967296⟩
def unp (w:Int):Hd:=if (zjv w).May then zjv w else Hd.zero
def zjM (w:Int):Bool:=decide (zjv w).May
theorem zn0 (w:Int):(zjv w).word=w:=by
 unfold Hd.word zjv b2i
 simp only[decide_eq_true_eq]
 have h1:(if w % 2=1 then (1:Int) else 0)=w % 2:=by split<;>omega
 have h2:(if w / 2 % 2=1 then (1:Int) else 0)=w / 2 % 2:=by split<;>omega
 have h3:(if w / 4 % 2=1 then (1:Int) else 0)=w / 4 % 2:=by split<;>omega
 rw[h1,h2,h3]
 omega
theorem zu2 {h:Hd} (hm:h.May):zjv h.word=h:=by
 obtain⟨u,o,d,n,b,m⟩:=h
 unfold Hd.May at hm
 simp only at hm
 cases u with
 |false=>
  rw[if_neg (by simp)]at hm
  rw[hm]
  decide
 |true=>
  rw[if_pos rfl]at hm
  have ho:b2i o=0\/b2i o=1:=by cases o<;>simp[b2i]
  have hd:b2i d=0\/b2i d=1:=by cases d<;>simp[b2i]
  have e:(⟨true,o,d,n,b,m⟩:Hd).word=1+2*b2i o+4*b2i d+8*n+1024*b+4294967296*m:=rfl
  rw[e]
  unfold zjv
  have e1:decide ((1+2*b2i o+4*b2i d+8*n+1024*b+4294967296*m) % 2=1)=true:=by simp;omega
  have e2:decide ((1+2*b2i o+4*b2i d+8*n+1024*b+4294967296*m) / 2 % 2=1)=o:=by
   cases o
   ·simp only[b2i]at ho hd ⊢;simp;rcases hd with hd|hd<;>(cases d<;>simp[b2i]at hd ⊢<;>omega)
   ·simp only[b2i]at ho hd ⊢;simp;(cases d<;>simp<;>omega)
  have e3:decide ((1+2*b2i o+4*b2i d+8*n+1024*b+4294967296*m) / 4 % 2=1)=d:=by
   cases d
   ·simp;(cases o<;>simp[b2i]<;>omega)
   ·simp;(cases o<;>simp[b2i]<;>omega)
  rw[e1,e2,e3]
  congr 1<;>omega
theorem zbR (w:Int):((BitVec.ofInt 64 w).toNat:Int)=w % 18446744073709551616:=by
 rw[BitVec.toNat_ofInt]
 simp
 omega
theorem zot (x k:Nat):x &&& 2 ^ k=if x.testBit k=true then 2 ^ k else 0:=by
 apply Nat.eq_of_testBit_eq
 intro i
 rw[Nat.testBit_and,Nat.testBit_two_pow]
 by_cases h:k=i
 ·subst h
  split
  ·rename_i h;simp[h]
  ·rename_i h;simp[h]
 ·split
  ·rw[Nat.testBit_two_pow];simp[h]
  ·simp[h]
theorem zzg (w:Int):IntKind.i64.wrap ((BitVec.ofInt IntKind.i64.bits w &&& BitVec.ofInt IntKind.i64.bits 127).toNat)=w % 128:=by
 have h:=zbR w
 have e2:(BitVec.ofInt IntKind.i64.bits w &&& BitVec.ofInt IntKind.i64.bits 127).toNat=(BitVec.ofInt 64 w).toNat % 2 ^ 7:=by
  show(BitVec.ofInt 64 w &&& BitVec.ofInt 64 127).toNat=_
  rw[BitVec.toNat_and]
  exact Nat.and_two_pow_sub_one_eq_mod _ 7
 rw[e2,zB (by omega) (by omega)]
 omega
theorem zzp (w:Int):IntKind.i64.wrap ((BitVec.ofInt IntKind.i64.bits w &&& BitVec.ofInt IntKind.i64.bits 4194303).toNat)=w % 4194304:=by
 have h:=zbR w
 have e2:(BitVec.ofInt IntKind.i64.bits w &&& BitVec.ofInt IntKind.i64.bits 4194303).toNat=(BitVec.ofInt 64 w).toNat % 2 ^ 22:=by
  show(BitVec.ofInt 64 w &&& BitVec.ofInt 64 4194303).toNat=_
  rw[BitVec.toNat_and]
  exact Nat.and_two_pow_sub_one_eq_mod _ 22
 rw[e2,zB (by omega) (by omega)]
 omega
theorem zzM (w:Int):(IntKind.i64.wrap ((BitVec.ofInt IntKind.i64.bits w &&& BitVec.ofInt IntKind.i64.bits 1).toNat) != 0)=decide (w % 2=1):=by
 have h:=zbR w
 have e2:(BitVec.ofInt IntKind.i64.bits w &&& BitVec.ofInt IntKind.i64.bits 1).toNat=if (BitVec.ofInt 64 w).toNat.testBit 0=true then 2 ^ 0 else 0:=by
  show(BitVec.ofInt 64 w &&& BitVec.ofInt 64 1).toNat=_
  rw[BitVec.toNat_and]
  exact zot _ 0
 rw[e2,Nat.testBit_eq_decide_div_mod_eq]
 by_cases hb:(BitVec.ofInt 64 w).toNat / 2 ^ 0 % 2=1
 ·rw[if_pos (decide_eq_true hb),decide_eq_true (by omega:w % 2=1)];decide
 ·rw[if_neg (by simpa using hb),decide_eq_false (by omega:¬w % 2=1)];decide
theorem zzJ (w:Int):(IntKind.i64.wrap ((BitVec.ofInt IntKind.i64.bits w &&& BitVec.ofInt IntKind.i64.bits 2).toNat) != 0)=decide (w / 2 % 2=1):=by
 have h:=zbR w
 have e2:(BitVec.ofInt IntKind.i64.bits w &&& BitVec.ofInt IntKind.i64.bits 2).toNat=if (BitVec.ofInt 64 w).toNat.testBit 1=true then 2 ^ 1 else 0:=by
  show(BitVec.ofInt 64 w &&& BitVec.ofInt 64 2).toNat=_
  rw[BitVec.toNat_and]
  exact zot _ 1
 rw[e2,Nat.testBit_eq_decide_div_mod_eq]
 by_cases hb:(BitVec.ofInt 64 w).toNat / 2 ^ 1 % 2=1
 ·rw[if_pos (decide_eq_true hb),decide_eq_true (by omega:w / 2 % 2=1)];decide
 ·rw[if_neg (by simpa using hb),decide_eq_false (by omega:¬w / 2 % 2=1)];decide
theorem zzK (w:Int):(IntKind.i64.wrap ((BitVec.ofInt IntKind.i64.bits w &&& BitVec.ofInt IntKind.i64.bits 4).toNat) != 0)=decide (w / 4 % 2=1):=by
 have h:=zbR w
 have e2:(BitVec.ofInt IntKind.i64.bits w &&& BitVec.ofInt IntKind.i64.bits 4).toNat=if (BitVec.ofInt 64 w).toNat.testBit 2=true then 2 ^ 2 else 0:=by
  show(BitVec.ofInt 64 w &&& BitVec.ofInt 64 4).toNat=_
  rw[BitVec.toNat_and]
  exact zot _ 2
 rw[e2,Nat.testBit_eq_decide_div_mod_eq]
 by_cases hb:(BitVec.ofInt 64 w).toNat / 2 ^ 2 % 2=1
 ·rw[if_pos (decide_eq_true hb),decide_eq_true (by omega:w / 4 % 2=1)];decide
 ·rw[if_neg (by simpa using hb),decide_eq_false (by omega:¬w / 4 % 2=1)];decide
theorem zmV (k:Nat) (hk:k<=62) {a b:Int} (ha:0<=a) (hak:a<(2 ^ k:Nat)) (hb:0<=b) (c:Nat) (hbc:b=((2 ^ k*c:Nat):Int)) (hs:a+b<9223372036854775808) :
  IntKind.i64.wrap ((BitVec.ofInt IntKind.i64.bits a ||| BitVec.ofInt IntKind.i64.bits b).toNat)=a+b:=by
 have h1:=zbR a
 have h2:=zbR b
 have hp:2 ^ k<=2 ^ 62:=Nat.pow_le_pow_right (by omega) hk
 have ea:(BitVec.ofInt 64 a).toNat=a.toNat:=by omega
 have eb:(BitVec.ofInt 64 b).toNat=2 ^ k*c:=by omega
 have e:(BitVec.ofInt IntKind.i64.bits a ||| BitVec.ofInt IntKind.i64.bits b).toNat=2 ^ k*c+a.toNat:=by
  show(BitVec.ofInt 64 a ||| BitVec.ofInt 64 b).toNat=_
  rw[BitVec.toNat_or,ea,eb,Nat.or_comm]
  exact(Nat.two_pow_add_eq_or_of_lt (by omega) c).symm
 rw[e,zB (by omega) (by omega)]
 omega
theorem zmg (n high:Int):Spec X 120 [] [.int n,.int high] (Ret [] (.bo (decide (0<=n/\n<=high)))):=by
 refine zGO X_ok Tryz.f120 fun hb hH=>⟨rfl,?_⟩
 show ARet ..
 refine zt (x:=bif decide (n>=0) then decide (n<=high) else false) ?_ ⟨rfl,rfl⟩
 by_cases h:0<=n<;>simp[h]
theorem zj9 (b:Bool) (n:Int):Spec X 121 [] [.bo b,.int n] (Ret [] (.int (n*b2i b))):=by
 refine zGO X_ok Tryz.f121 fun hb hH=>⟨rfl,?_⟩
 show ABr (b) _ _
 refine⟨fun h=>?_,fun h=>?_⟩
 ·subst h
  show ARet ..
  refine zaZ (x:=n) ?_ ⟨rfl,rfl⟩
  simp[b2i]
 ·subst h
  show ARet ..
  refine zaZ (x:=0) ?_ ⟨rfl,rfl⟩
  simp[b2i]
theorem znW (h:Hd):Spec X 81 [] [h.tv] (Ret [] (.bo (decide h.May))):=by
 refine zGO X_ok Tryz.f81 fun hb hH=>⟨rfl,?_⟩
 obtain⟨u,o,d,n,b,m⟩:=h
 show ABr (!u) _ _
 refine⟨fun h=>?_,fun h=>?_⟩
 ·have hu:u=false:=by simpa using h
  subst hu
  show ARet ..
  refine zt ?_ ⟨rfl,rfl⟩
  show(false==false&&(o==false&&(d==false&&(n==0&&(b==0&&(m==0&&true))))))=_
  have e:(⟨false,o,d,n,b,m⟩:Hd).May↔(o=false/\d=false/\n=0/\b=0/\m=0):=by
   unfold Hd.May Hd.zero
   simp
  have e' : decide (⟨false,o,d,n,b,m⟩:Hd).May=decide (o=false/\d=false/\n=0/\b=0/\m=0):=by rw[decide_eq_decide];exact e
  rw[e']
  by_cases h1:n=0<;>by_cases h2:b=0<;>by_cases h3:m=0<;>cases o<;>cases d<;>simp[h1,h2,h3]
 ·have hu:u=true:=by simpa using h
  subst hu
  have e:(⟨true,o,d,n,b,m⟩:Hd).May↔(0<=n/\n<=63)/\(0<=b/\b<=1048576)/\0<=m/\m<=1048576:=by
   unfold Hd.May
   simp
  have e' : decide (⟨true,o,d,n,b,m⟩:Hd).May=(decide (0<=n/\n<=63)&&(decide (0<=b/\b<=1048576)&&decide (0<=m/\m<=1048576))):=by
   rw[←Bool.decide_and,←Bool.decide_and,decide_eq_decide];exact e
  rw[e']
  show ACall ..
  refine za (zmg n 63) rfl ?_
  show AIf (decide (0<=n/\n<=63)=true/\True) _ _
  refine⟨fun h1=>?_,fun h1=>?_⟩
  ·show ACall ..
   refine za (zmg b 1048576) rfl ?_
   show AIf (decide (0<=b/\b<=1048576)=true/\True) _ _
   refine⟨fun h2=>?_,fun h2=>?_⟩
   ·show ACall ..
    refine za (zmg m 1048576) rfl ?_
    show ARet ..
    refine zt (x:=decide (0<=m/\m<=1048576)) ?_ ⟨rfl,rfl⟩
    rw[h1.1,h2.1]
    rfl
   ·have h2:decide (0<=b/\b<=1048576)=false:=Bool.eq_false_iff.2 fun h=>h2 ⟨h,trivial⟩
    show AOb (decide (0<=b/\b<=1048576)=false) _
    refine⟨h2,?_⟩
    show ARet ..
    refine zt (x:=false) ?_ ⟨rfl,rfl⟩
    rw[h2]
    simp
  ·have h1:decide (0<=n/\n<=63)=false:=Bool.eq_false_iff.2 fun h=>h1 ⟨h,trivial⟩
   show AOb (decide (0<=n/\n<=63)=false) _
   refine⟨h1,?_⟩
   show AIf (false=true/\True) _ _
   refine⟨fun h=>absurd h.1 (by simp),fun _=>?_⟩
   show AOb (false=false) _
   refine⟨rfl,?_⟩
   show ARet ..
   refine zt (x:=false) ?_ ⟨rfl,rfl⟩
   rw[h1]
   rfl
theorem ztl {n:Int} {k:Nat} {m:Int} (hm:(2:Int) ^ (min (k:Int).toNat IntKind.i64.bits)=m) (h0:0<=n) (h1:n*m<9223372036854775808) (hm0:0<=m):IntKind.i64.wrap (n*2 ^ (min (k:Int).toNat IntKind.i64.bits))=n*m:=by
 rw[hm]
 have:=Int.mul_nonneg h0 hm0
 exact zB (by omega) h1
def orr (a b:Int):Int:=IntKind.i64.wrap ((BitVec.ofInt IntKind.i64.bits a ||| BitVec.ofInt IntKind.i64.bits b).toNat)
theorem zlk (h:Hd) (hm:h.May):Spec X 82 [] [h.tv] (Ret [] (.int h.word)):=by
 refine zGO X_ok Tryz.f82 fun hb hH=>⟨rfl,?_⟩
 obtain⟨u,o,d,n,b,m⟩:=h
 have hr:(0<=n/\n<=63)/\(0<=b/\b<=1048576)/\0<=m/\m<=1048576:=by
  unfold Hd.May at hm
  simp only at hm
  cases u with
  |true=>rw[if_pos rfl]at hm;exact hm
  |false=>rw[if_neg (by simp)]at hm;injection hm with _ _ _ e1 e2 e3;subst e1 e2 e3;omega
 have hbu:b2i u=0\/b2i u=1:=by cases u<;>simp[b2i]
 have hbo:b2i o=0\/b2i o=1:=by cases o<;>simp[b2i]
 have hbd:b2i d=0\/b2i d=1:=by cases d<;>simp[b2i]
 show ADCall ..
 refine .mk _ _ (zj9 u 1) rfl ?_
 show ADCall ..
 refine .mk _ _ (zj9 o 2) rfl ?_
 show ADCall ..
 refine .mk _ _ (zj9 d 4) rfl ?_
 show AOb ..
 refine⟨by decide,?_⟩
 show AOb ..
 refine⟨by decide,?_⟩
 show AOb ..
 refine⟨by decide,?_⟩
 show ARet ..
 refine zaZ (x:=orr (orr (orr (orr (orr (1*b2i u) (2*b2i o)) (4*b2i d)) (IntKind.i64.wrap (n*2 ^ (min ((3:Nat):Int).toNat IntKind.i64.bits)))) (IntKind.i64.wrap (b*2 ^ (min ((10:Nat):Int).toNat IntKind.i64.bits)))) (IntKind.i64.wrap (m*2 ^ (min ((32:Nat):Int).toNat IntKind.i64.bits)))) ?_ ⟨rfl,rfl⟩
 rw[ztl (k:=3) (m:=8) (by decide) (by omega) (by omega) (by omega),ztl (k:=10) (m:=1024) (by decide) (by omega) (by omega) (by omega),ztl (k:=32) (m:=4294967296) (by decide) (by omega) (by omega) (by omega)]
 have e1:orr (1*b2i u) (2*b2i o)=b2i u+2*b2i o:=by
  have:=zmV 1 (by omega) (a:=1*b2i u) (b:=2*b2i o) (by omega) (by omega) (by omega) (b2i o).toNat (by omega) (by omega)
  unfold orr;rw[this];omega
 have e2:orr (b2i u+2*b2i o) (4*b2i d)=b2i u+2*b2i o+4*b2i d:=zmV 2 (by omega) (by omega) (by omega) (by omega) (b2i d).toNat (by omega) (by omega)
 have e3:orr (b2i u+2*b2i o+4*b2i d) (n*8)=b2i u+2*b2i o+4*b2i d+n*8:=zmV 3 (by omega) (by omega) (by omega) (by omega) n.toNat (by omega) (by omega)
 have e4:orr (b2i u+2*b2i o+4*b2i d+n*8) (b*1024)=b2i u+2*b2i o+4*b2i d+n*8+b*1024:=zmV 10 (by omega) (by omega) (by omega) (by omega) b.toNat (by omega) (by omega)
 have e5:orr (b2i u+2*b2i o+4*b2i d+n*8+b*1024) (m*4294967296)=b2i u+2*b2i o+4*b2i d+n*8+b*1024+m*4294967296:=zmV 32 (by omega) (by omega) (by omega) (by omega) m.toNat (by omega) (by omega)
 rw[e1,e2,e3,e4,e5]
 unfold Hd.word
 simp only
 omega
def zhO (h:Hd):Int:=if h.May then h.word else 0
def zc5 (h:Hd):Int:=if h.May then 0 else 1
theorem zmC (h:Hd):Spec X 226 [] [h.tv] (Ret [] (.tup [.int (zhO h),.int (zc5 h)])):=by
 refine zGO X_ok Tryz.f226 fun hb hH=>⟨rfl,?_⟩
 unfold zhO zc5
 show ACall ..
 refine za (znW h) rfl ?_
 show ABr (!decide h.May) _ _
 refine⟨fun h1=>?_,fun h1=>?_⟩
 ·have hm:¬h.May:=by simpa using h1
  rw[if_neg hm,if_neg hm]
  show ARet ..
  exact zi rfl ⟨rfl,rfl⟩
 ·have hm:h.May:=by simpa using h1
  rw[if_pos hm,if_pos hm]
  show ACall ..
  refine za (zlk h hm) rfl ?_
  show ARet ..
  exact zi rfl ⟨rfl,rfl⟩
def zus (a b:Int):Int:=IntKind.i64.wrap ((BitVec.ofInt IntKind.i64.bits a &&& BitVec.ofInt IntKind.i64.bits b).toNat)
def zwZ (a:Int) (k:Nat):Int:=a.fdiv (2 ^ (min (k:Int).toNat IntKind.i64.bits))
def ziT (w:Int):Hd:=⟨zus w 1 != 0,zus w 2 != 0,zus w 4 != 0,zus (zwZ w 3) 127,zus (zwZ w 10) 4194303,zwZ w 32⟩
theorem zob {w:Int} {k:Nat} {m:Int} (hm:(2:Int) ^ (min (k:Int).toNat IntKind.i64.bits)=m) (h:0<=m):zwZ w k=w / m:=by
 unfold zwZ
 rw[hm,Int.fdiv_eq_ediv_of_nonneg _ h]
theorem zvI (w:Int):ziT w=zjv w:=by
 unfold ziT zjv
 rw[zob (k:=3) (m:=8) (by decide) (by omega),zob (k:=10) (m:=1024) (by decide) (by omega),zob (k:=32) (m:=4294967296) (by decide) (by omega)]
 unfold zus
 rw[zzM,zzJ,zzK,zzg,zzp]
theorem zi3 (w:Int):Spec X 39 [] [.int w] (Ret [] (.tup [(unp w).tv,.bo (zjM w)])):=by
 refine zGO X_ok Tryz.f39 fun hb hH=>⟨rfl,?_⟩
 have hr:=zvI w
 show AOb ..
 refine⟨by decide,?_⟩
 show AOb ..
 refine⟨by decide,?_⟩
 show AOb ..
 refine⟨by decide,?_⟩
 show ACall ..
 refine za (znW (ziT w)) rfl ?_
 unfold unp zjM
 rw[←hr]
 show AIf ((!decide (ziT w).May)=false/\True) _ _
 refine⟨fun h1=>?_,fun h1=>?_⟩
 ·have hm:(ziT w).May:=by simpa using h1.1
  show ACall ..
  refine za (zlk (ziT w) hm) rfl ?_
  have ew:(ziT w).word=w:=by rw[hr];exact zn0 w
  rw[if_pos hm]
  rw[decide_eq_true hm]
  show ABr ((ziT w).word != w) _ _
  rw[ew]
  refine zNO (by simp) ?_
  show ARet ..
  exact zi rfl ⟨rfl,rfl⟩
 ·have hm:¬(ziT w).May:=fun hm=>h1 ⟨by simp[hm],trivial⟩
  rw[if_neg hm]
  rw[decide_eq_false hm]
  show AOb ..
  refine⟨by decide,?_⟩
  refine zYE (by decide) ?_
  show ARet ..
  exact zi rfl ⟨rfl,rfl⟩
theorem zjV {h:Hd} (hm:h.May):(0<=h.n/\h.n<=63)/\(0<=h.born/\h.born<=1048576)/\0<=h.mark/\h.mark<=1048576:=by
 obtain⟨u,o,d,n,b,m⟩:=h
 unfold Hd.May Hd.zero at hm
 cases u
 ·simp at hm;simp;omega
 ·simpa using hm
def tdv (w d:Int):Int:=IntKind.i64.wrap (w.tdiv d)
theorem zmP {w d:Int} (h:0<=w) (hd:1<=d) (hw:w<9223372036854775808):tdv w d=w / d:=by
 unfold tdv
 rw[Int.tdiv_eq_ediv_of_nonneg h]
 have h1:=Int.ediv_nonneg h (by omega:0<=d)
 have h2:=Int.ediv_le_self d h
 exact zB (by omega) (by omega)
def zag (p:Page):Bool:=decide ((p.kind=0/\p.arg=0)\/(p.kind=1/\0<=p.arg/\p.arg<=2)\/(p.kind=2/\1<=p.arg/\p.arg<=4))
def pgo:Int->List Page->Bool
 |r,[]=>decide (r=0)
 |r,p::l=>bif decide (p.kind=3) then !decide (r=0)&&decide (p.arg=0)&&pgo (r-1) l else zag p&&!decide (r>0)&&pgo (if p.kind=2 then p.arg-1 else r) l
def zar (l:List Page):Bool:=pgo 0 l&&decide (1<=l.length/\l.length<=64)
theorem zft (a b c:Int):Spec X 136 [] [.int a,.int b,.int c] (Ret [] (.bo (decide (b<=a/\a<=c)))):=by
 refine zGO X_ok Tryz.f136 fun hb hH=>⟨rfl,?_⟩
 show ARet ..
 refine zt (x:=bif decide (a>=b) then decide (a<=c) else false) ?_ ⟨rfl,rfl⟩
 by_cases h:b<=a<;>simp[h]
theorem zoE {l:List Page} {i:Nat} {r:Int} (h:i<l.length):pgo r (l.drop i)=pgo r (l.getD i default::l.drop (i+1)):=by
 rw[List.drop_eq_getElem_cons h,List.getD_eq_getElem?_getD,List.getElem?_eq_getElem h]
 rfl
theorem zdk (l:List Page):Spec X 99 [] [.c (.d (.sl .page l))] (Ret [] (.bo (zar l))):=by
 refine zGO X_ok Tryz.f99 fun hb hH=>⟨rfl,?_⟩
 have hla:l.length<=zE:=(hb (.c (.d (.sl .page l))) (by simp)).1
 unfold zE at hla
 show ∃n,_
 refine⟨0,ALoop.inv (ι:={p:Nat×Int // p.1<=l.length/\0<=p.2/\p.2<=3/\pgo 0 l=pgo p.2 (l.drop p.1)}) (fun p=>⟨[(0,.c (.d (.sl .page l))),(3,.int p.1.2),(6,.c (.d (.sl .page l))),(7,.int l.length),(8,.int p.1.1)],[],32⟩) (fun p=>l.length-p.1.1) ⟨(0,0),Nat.zero_le _,Int.le_refl _,by show(0:Int)<=3;omega,rfl⟩ ?_ ?_⟩
 ·exact⟨[],.cons _ _ _ .same (.cons _ _ _ .same (.cons _ _ _ .same (.cons _ _ _ .same (.cons _ _ _ .same .nil)))),.nil,rfl⟩
 ·rintro⟨⟨i,r⟩,hi,hr0,hr3,he⟩
  have hi:i<=l.length:=hi
  have hr0:0<=r:=hr0
  have hr3:r<=3:=hr3
  have he:pgo 0 l=pgo r (l.drop i):=he
  show ABr (decide ((i:Int)<(l.length:Int))) _ _
  refine⟨fun h=>?_,fun h=>?_⟩
  ·have hlt:i<l.length:=by simpa using h
   rw[zoE hlt]at he
   generalize hp:l.getD i default=p at he
   have bad:pgo 0 l=false->zar l=false:=fun h=>by unfold zar;rw[h];rfl
   show AOb ((0:Int)<=(i:Int)/\(i:Int)<(l.length:Int)) _
   refine⟨by omega,?_⟩
   show ABr (decide ((l.getD i default).kind=3)) _ _
   rw[hp]
   refine⟨fun h=>?_,fun h=>?_⟩
   ·have hk:p.kind=3:=of_decide_eq_true h
    have he:pgo 0 l=(!decide (r=0)&&decide (p.arg=0)&&pgo (r-1) (l.drop (i+1))):=by rw[he];simp only[pgo,hk,decide_true,cond_true]
    show ABr (bif decide (r=0) then true else (l.getD i default).arg != 0) _ _
    rw[hp]
    refine⟨fun h=>?_,fun h=>?_⟩
    ·show ARet ..
     refine zt (x:=false) ?_ ⟨rfl,rfl⟩
     refine(bad ?_).symm
     rw[he]
     by_cases h1:r=0
     ·simp[h1]
     ·simp[h1]at h
      simp[h]
    ·have h1:r≠0/\p.arg=0:=by
      by_cases h1:r=0
      ·simp[h1]at h
      ·simp[h1]at h;exact⟨h1,h⟩
     show ARound ..
     exact⟨⟨(i+1,r-1),hlt,by show 0<=r-1;omega,by show r-1<=3;omega,by show pgo 0 l=pgo (r-1) (l.drop (i+1));rw[he];simp[h1]⟩,by show l.length-(i+1)<l.length-i;omega,[],.cons _ _ _ .same (.cons _ _ _ (.int_eq (zB (n:=r-1) (by omega) (by omega))) (.cons _ _ _ .same (.cons _ _ _ .same (.cons _ _ _ (.int_eq (zad (i:=i) (by unfold zE;omega))) .nil)))),.nil,rfl⟩
   ·have hk:p.kind≠3:=of_decide_eq_false h
    have he:pgo 0 l=(zag p&&!decide (r>0)&&pgo (if p.kind=2 then p.arg-1 else r) (l.drop (i+1))):=by rw[he];simp only[pgo,hk,decide_false,cond_false]
    have nofit:zag p=false->zar l=false:=fun h=>bad (by rw[he,h];rfl)
    have rest:∀(r2:Int),True:=fun _=>trivial
    show ABr (decide ((l.getD i default).kind=0)) _ _
    rw[hp]
    refine⟨fun h=>?_,fun h=>?_⟩
    ·have hk0:p.kind=0:=of_decide_eq_true h
     show ABr ((l.getD i default).arg != 0) _ _
     rw[hp]
     refine⟨fun h=>?_,fun h=>?_⟩
     ·show ARet ..
      refine zt (x:=false) (nofit ?_).symm ⟨rfl,rfl⟩
      simp at h
      simp[zag,hk0,h]
     ·have ha:p.arg=0:=by simpa using h
      have hf:zag p=true:=by simp[zag,hk0,ha]
      show ABr (decide (r>0)) _ _
      refine⟨fun h=>?_,fun h=>?_⟩
      ·show ARet ..
       refine zt (x:=false) (bad ?_).symm ⟨rfl,rfl⟩
       rw[he,h];simp
      ·show ABr (decide ((l.getD i default).kind=2)) _ _
       rw[hp]
       refine⟨fun h=>absurd (of_decide_eq_true h) (by omega),fun _=>?_⟩
       show ARound ..
       exact⟨⟨(i+1,r),hlt,hr0,hr3,by show pgo 0 l=pgo r (l.drop (i+1));rw[he,hf,h,if_neg (by omega)];simp⟩,by show l.length-(i+1)<l.length-i;omega,[],.cons _ _ _ .same (.cons _ _ _ .same (.cons _ _ _ .same (.cons _ _ _ .same (.cons _ _ _ (.int_eq (zad (i:=i) (by unfold zE;omega))) .nil)))),.nil,rfl⟩
    ·have hk0:p.kind≠0:=of_decide_eq_false h
     show ABr (decide ((l.getD i default).kind=1)) _ _
     rw[hp]
     refine⟨fun h=>?_,fun h=>?_⟩
     ·have hk1:p.kind=1:=of_decide_eq_true h
      show ACall ..
      refine za (zft (l.getD i default).arg 0 2) rfl ?_
      rw[hp]
      show ABr (!decide (0<=p.arg/\p.arg<=2)) _ _
      refine⟨fun h=>?_,fun h=>?_⟩
      ·show ARet ..
       refine zt (x:=false) (nofit ?_).symm ⟨rfl,rfl⟩
       simp at h
       simp[zag,hk1]
       omega
      ·have ha:0<=p.arg/\p.arg<=2:=by simpa using h
       have hf:zag p=true:=by simp[zag,hk1,ha]
       show ABr (decide (r>0)) _ _
       refine⟨fun h=>?_,fun h=>?_⟩
       ·show ARet ..
        refine zt (x:=false) (bad ?_).symm ⟨rfl,rfl⟩
        rw[he,h];simp
       ·show ABr (decide ((l.getD i default).kind=2)) _ _
        rw[hp]
        refine⟨fun h=>absurd (of_decide_eq_true h) (by omega),fun _=>?_⟩
        show ARound ..
        exact⟨⟨(i+1,r),hlt,hr0,hr3,by show pgo 0 l=pgo r (l.drop (i+1));rw[he,hf,h,if_neg (by omega)];simp⟩,by show l.length-(i+1)<l.length-i;omega,[],.cons _ _ _ .same (.cons _ _ _ .same (.cons _ _ _ .same (.cons _ _ _ .same (.cons _ _ _ (.int_eq (zad (i:=i) (by unfold zE;omega))) .nil)))),.nil,rfl⟩
     ·have hk1:p.kind≠1:=of_decide_eq_false h
      show ABr (decide ((l.getD i default).kind=2)) _ _
      rw[hp]
      refine⟨fun h=>?_,fun h=>?_⟩
      ·have hk2:p.kind=2:=of_decide_eq_true h
       show ACall ..
       refine za (zft (l.getD i default).arg 1 4) rfl ?_
       rw[hp]
       show ABr (!decide (1<=p.arg/\p.arg<=4)) _ _
       refine⟨fun h=>?_,fun h=>?_⟩
       ·show ARet ..
        refine zt (x:=false) (nofit ?_).symm ⟨rfl,rfl⟩
        simp at h
        simp[zag,hk2]
        omega
       ·have ha:1<=p.arg/\p.arg<=4:=by simpa using h
        have hf:zag p=true:=by simp[zag,hk2,ha]
        show ABr (decide (r>0)) _ _
        refine⟨fun h=>?_,fun h=>?_⟩
        ·show ARet ..
         refine zt (x:=false) (bad ?_).symm ⟨rfl,rfl⟩
         rw[he,h];simp
        ·show ABr (decide ((l.getD i default).kind=2)) _ _
         rw[hp]
         refine⟨fun _=>?_,fun h=>absurd hk2 (of_decide_eq_false h)⟩
         show ARound ..
         exact⟨⟨(i+1,p.arg-1),hlt,by show 0<=p.arg-1;omega,by show p.arg-1<=3;omega,by show pgo 0 l=pgo (p.arg-1) (l.drop (i+1));rw[he,hf,h,if_pos hk2];simp⟩,by show l.length-(i+1)<l.length-i;omega,[],.cons _ _ _ .same (.cons _ _ _ (.int_eq (by show IntKind.i64.wrap ((l.getD i default).arg-1)=p.arg-1;rw[hp];exact zB (by omega) (by omega))) (.cons _ _ _ .same (.cons _ _ _ .same (.cons _ _ _ (.int_eq (zad (i:=i) (by unfold zE;omega))) .nil)))),.nil,rfl⟩
      ·have hk2:p.kind≠2:=of_decide_eq_false h
       show ARet ..
       refine zt (x:=false) (nofit ?_).symm ⟨rfl,rfl⟩
       simp[zag,hk0,hk1,hk2]
  ·have hge:i=l.length:=by simp at h;omega
   subst hge
   rw[List.drop_length]at he
   have he:pgo 0 l=decide (r=0):=he
   show AIf (decide (r=0)=true/\True) _ _
   refine⟨fun h=>?_,fun h=>?_⟩
   ·show ACall ..
    refine za (zft (l.length:Int) 1 64) rfl ?_
    show ARet ..
    refine zt (y:=zar l) (x:=decide ((1:Int)<=l.length/\(l.length:Int)<=64)) ?_ ⟨rfl,rfl⟩
    unfold zar
    rw[he,h.1]
    simp only[Bool.true_and,decide_eq_decide]
    omega
   ·have h1:decide (r=0)=false:=by
     by_cases h0:r=0
     ·exact absurd (And.intro (decide_eq_true h0) trivial) h
     ·exact decide_eq_false h0
    show AOb (decide (r=0)=false) _
    refine⟨h1,?_⟩
    show ARet ..
    refine zt (x:=false) ?_ ⟨rfl,rfl⟩
    unfold zar
    rw[he,h1]
    rfl
theorem zua {r:Int} (h:0<r):pgo r []=false:=by simp[pgo];omega
theorem zmc {r:Int} (h:0<r) (q:Page) (l:List Page):pgo r (q::l)=(decide (q=⟨3,0⟩)&&pgo (r-1) l):=by
 obtain⟨k,a⟩:=q
 simp only[pgo]
 by_cases hk:k=3
 ·subst hk
  have h0:r≠0:=by omega
  simp[h0]
 ·have:¬(⟨k,a⟩:Page)=⟨3,0⟩:=fun e=>hk (by injection e)
  simp[hk,this,h]
theorem zzc (l:List Page):Spec X 123 [] [.c (.d (.sl .page l))] (Ret [] (.bo (zar l))):=by
 refine zGO X_ok Tryz.f123 fun hb hH=>⟨rfl,?_⟩
 have hla:l.length<=zE:=(hb (.c (.d (.sl .page l))) (by simp)).1
 unfold zE at hla
 show ABr (bif decide ((l.length:Int)<1) then true else decide ((l.length:Int)>64)) _ _
 refine⟨fun h=>?_,fun h=>?_⟩
 ·show ARet ..
  refine zt (x:=false) ?_ ⟨rfl,rfl⟩
  unfold zar
  have:¬(1<=l.length/\l.length<=64):=by
   by_cases h1:(l.length:Int)<1
   ·omega
   ·simp[h1]at h;omega
  simp[this]
 ·have hlen:1<=l.length/\l.length<=64:=by
   by_cases h1:(l.length:Int)<1
   ·simp[h1]at h
   ·simp[h1]at h;omega
  have hmay:zar l=pgo 0 l:=by unfold zar;simp[hlen]
  rw[hmay]
  show ∃n,_
  refine⟨0,ALoop.inv (ι:={i:Nat // i<=l.length/\pgo 0 l=pgo 0 (l.drop i)}) (fun i=>⟨[(0,.c (.d (.sl .page l))),(3,.int i.1)],[],32⟩) (fun i=>l.length-i.1) ⟨0,Nat.zero_le _,rfl⟩ ?_ ?_⟩
  ·exact⟨[],.cons _ _ _ .same (.cons _ _ _ .same .nil),.nil,rfl⟩
  ·rintro⟨i,hi,he⟩
   show ABr (decide ((i:Int)<(l.length:Int))) _ _
   refine⟨fun h=>?_,fun h=>?_⟩
   ·have hlt:i<l.length:=by simpa using h
    rw[zoE hlt]at he
    generalize hp:l.getD i default=p at he
    have wi:IntKind.i64.wrap ((i:Int)+1)=((i+1:Nat):Int):=zad (i:=i) (by unfold zE;omega)
    have again:pgo 0 l=pgo 0 (l.drop (i+1))->∀s:AS,ALe s ⟨[(0,.c (.d (.sl .page l))),(3,.int ((i+1:Nat):Int))],[],32⟩->ARound (ι:={i:Nat // i<=l.length/\pgo 0 l=pgo 0 (l.drop i)}) (fun i=>⟨[(0,.c (.d (.sl .page l))),(3,.int i.1)],[],32⟩) (fun i=>l.length-i.1) ⟨i,hi,by rw[zoE hlt,hp];exact he⟩ s:=fun h s hs=>⟨⟨i+1,hlt,h⟩,by show l.length-(i+1)<l.length-i;omega,hs⟩
    show AOb ((0:Int)<=(i:Int)/\(i:Int)<(l.length:Int)) _
    refine⟨by omega,?_⟩
    show ABr (bif decide ((l.getD i default).kind=0) then decide ((l.getD i default).arg=0) else false) _ _
    rw[hp]
    refine⟨fun h=>?_,fun h=>?_⟩
    ·have hk:p.kind=0/\p.arg=0:=by
      by_cases h1:p.kind=0
      ·simp[h1]at h;exact⟨h1,h⟩
      ·simp[h1]at h
     show ARound ..
     refine again ?_ _ ⟨[],.cons _ _ _ .same (.cons _ _ _ (.int_eq wi) .nil),.nil,rfl⟩
     rw[he]
     simp[pgo,zag,hk]
    ·have h0:¬(p.kind=0/\p.arg=0):=fun h1=>by simp[h1]at h
     show ABr (bif (bif decide ((l.getD i default).kind=1) then decide ((l.getD i default).arg>=0) else false) then decide ((l.getD i default).arg<=2) else false) _ _
     rw[hp]
     refine⟨fun h=>?_,fun h=>?_⟩
     ·have hk:p.kind=1/\0<=p.arg/\p.arg<=2:=by
       by_cases h1:p.kind=1
       ·by_cases h2:0<=p.arg
        ·simp[h1,h2]at h;exact⟨h1,h2,h⟩
        ·simp[h1,h2]at h
       ·simp[h1]at h
      show ARound ..
      refine again ?_ _ ⟨[],.cons _ _ _ .same (.cons _ _ _ (.int_eq wi) .nil),.nil,rfl⟩
      rw[he]
      simp[pgo,zag,hk]
     ·have h1:¬(p.kind=1/\0<=p.arg/\p.arg<=2):=fun h1=>by simp[h1]at h
      show ABr (bif (bif ((l.getD i default).kind != 2) then true else decide ((l.getD i default).arg<1)) then true else decide ((l.getD i default).arg>4)) _ _
      rw[hp]
      refine⟨fun h=>?_,fun h=>?_⟩
      ·have h2:¬(p.kind=2/\1<=p.arg/\p.arg<=4):=fun h2=>by
        have e1:¬p.arg<1:=by omega
        have e2:¬p.arg>4:=by omega
        simp[h2,e1]at h
        omega
       show ARet ..
       refine zt (x:=false) ?_ ⟨rfl,rfl⟩
       rw[he]
       have hf:zag p=false:=by
        unfold zag
        exact decide_eq_false fun h3=>h3.elim h0 fun h3=>h3.elim h1 h2
       simp[pgo,hf]
      ·have h2:p.kind=2/\1<=p.arg/\p.arg<=4:=by
        by_cases e1:p.kind=2
        ·by_cases e2:p.arg<1
         ·simp[e1,e2]at h
         ·simp[e1,e2]at h;omega
        ·simp[e1]at h
       have he:pgo 0 l=pgo (p.arg-1) (l.drop (i+1)):=by rw[he];simp[pgo,zag,h2]
       show ∃n,_
       refine⟨0,ALoop.inv (ι:={q:Nat×Nat // i+1<=q.1/\q.1<=l.length/\1<=q.2/\(q.2:Int)<=p.arg/\pgo 0 l=pgo (p.arg-q.2) (l.drop q.1)}) (fun q=>⟨[(0,.c (.d (.sl .page l))),(3,.int q.1.1),(4,.c (.ptr 1 0 0)),(5,.int q.1.2)],[(1,.vars [.d (DV.int p.kind),.d (DV.int p.arg)])],64⟩) (fun q=>5-q.1.2) ⟨(i+1,1),Nat.le_refl _,hlt,Nat.le_refl _,h2.2.1,he⟩ ?_ ?_⟩
       ·exact⟨[(_,1)],.cons _ _ _ .same (.cons _ _ _ (.int_eq wi) (.cons _ _ _ (.c _ _ (.ptr1 _ _ _ _)) (.cons _ _ _ .same .nil))),.old 1 _ _ _ _ rfl rfl (.vars _ _ (.cons _ _ _ _ (.int_eq (by rw[←hp];rfl)) (.cons _ _ _ _ (.int_eq (by rw[←hp];rfl)) .nil))) .nil,rfl⟩
       ·rintro⟨⟨j,k⟩,hij,hj,hk1,hka,hej⟩
        have hij:i+1<=j:=hij
        have hj:j<=l.length:=hj
        have hk1:1<=k:=hk1
        have hka:(k:Int)<=p.arg:=hka
        have hej:pgo 0 l=pgo (p.arg-k) (l.drop j):=hej
        show ABr (decide ((k:Int)<p.arg)) _ _
        refine⟨fun h=>?_,fun h=>?_⟩
        ·have hkl:(k:Int)<p.arg:=of_decide_eq_true h
         show ABr (decide ((j:Int)>=(l.length:Int))) _ _
         refine⟨fun h=>?_,fun h=>?_⟩
         ·have hge:j=l.length:=by simp at h;omega
          subst hge
          rw[List.drop_length,zua (by omega)]at hej
          refine zYE (by decide) ?_
          show ARet ..
          refine zt (x:=false) hej.symm ⟨rfl,rfl⟩
         ·have hjl:j<l.length:=by simp at h;omega
          rw[zoE hjl,zmc (by omega)]at hej
          show AOb ((0:Int)<=(j:Int)/\(j:Int)<(l.length:Int)) _
          refine⟨by omega,?_⟩
          generalize hq:l.getD j default=q at hej
          show ABr (!((l.getD j default).kind==3&&((l.getD j default).arg==0&&true))) _ _
          rw[hq]
          have hqe:(q.kind==3&&(q.arg==0&&true))=decide (q=⟨3,0⟩):=by
           obtain⟨k,a⟩:=q
           by_cases e1:k=3<;>by_cases e2:a=0<;>simp[e1,e2]
          rw[hqe]
          refine⟨fun h=>?_,fun h=>?_⟩
          ·have h:decide (q=⟨3,0⟩)=false:=by simpa using h
           show ARet ..
           refine zt (x:=false) ?_ ⟨rfl,rfl⟩
           rw[hej,h]
           rfl
          ·have h:decide (q=⟨3,0⟩)=true:=by simpa using h
           show ARound ..
           refine⟨⟨(j+1,k+1),by show i+1<=j+1;omega,hjl,by show 1<=k+1;omega,by show((k+1:Nat):Int)<=p.arg;omega,?_⟩,by show 5-(k+1)<5-k;omega,[(1,1)],.cons _ _ _ .same (.cons _ _ _ (.int_eq (zad (i:=j) (by unfold zE;omega))) (.cons _ _ _ (.c _ _ (.ptr1 _ _ _ _)) (.cons _ _ _ (.int_eq (zad (i:=k) (by unfold zE;omega))) .nil))),.old 1 1 _ _ _ rfl rfl (.vars _ _ (.cons _ _ _ _ (.d _) (.cons _ _ _ _ (.d _) .nil))) .nil,rfl⟩
           show pgo 0 l=pgo (p.arg-((k+1:Nat):Int)) (l.drop (j+1))
           rw[hej,h,show p.arg-((k+1:Nat):Int)=p.arg-k-1 from by omega]
           rfl
        ·have hke:(k:Int)=p.arg:=by have:=of_decide_eq_false h;omega
         show ARound ..
         exact⟨⟨j,hj,by show pgo 0 l=pgo 0 (l.drop j);rw[hej,hke,Int.sub_self]⟩,by show l.length-j<l.length-i;omega,[],.cons _ _ _ .same (.cons _ _ _ .same .nil),.nil,rfl⟩
   ·have hge:i=l.length:=by simp at h;omega
    show ARet ..
    refine zt (x:=true) ?_ ⟨rfl,rfl⟩
    rw[he,hge,List.drop_length]
    rfl
theorem zph (i:Int) (h:0<=i/\i<=4611686018427387):Spec X 140 [] [.int i] (Ret [] (.int (16*(i+1)))):=by
 refine zGO X_ok Tryz.f140 fun hb hH=>⟨rfl,?_⟩
 show ARet _ _ [.int (IntKind.i64.wrap (IntKind.i64.wrap (i+1)*16))]
 rw[zB (n:=i+1) (by omega) (by omega),zB (by omega) (by omega),Int.mul_comm]
 exact zi rfl ⟨rfl,rfl⟩
def zxa (L:Nat):zg->TV->Prop:=fun H _=>H=[(16,.ghost X.P L (some []))]\/H=[(16,.ghost X.P L none)]
abbrev zyI (L:Nat):TV:=.lit (.func (.yield L) #[] #[])
def zD (p:Page) (a:Int):List (Int×Int):=
 if p.kind=2 then [(a,p.arg*16)] else if p.kind=1 then (List.range (zfg p.arg).toNat).map (fun i:Nat=>(a+(i:Int)*zaR p.arg,zaR p.arg)) else []
def zbv (p:Page):Prop:=(p.kind=1->0<=p.arg/\p.arg<=2)/\(p.kind=2->1<=p.arg/\p.arg<=4)
theorem zdE {L:Nat} {s:AS} {o:Option (List (Int×Int))} (h:zh s.h 16=some (.ghost X.P L o)) (ho:o=some []\/o=none):ARet (zxa L) s []:=by
 refine⟨[(16,16)],[(16,.ghost X.P L o)],[],.nil,.old 16 16 _ _ _ rfl h (.ghost _ _ _) .nil,rfl,?_⟩
 rcases ho with rfl|rfl
 ·exact .inl rfl
 ·exact .inr rfl
theorem zpy (L:Nat) (l:List Page) (i:Nat) (hi:i<l.length) (hsz:l.length<=64) (hp:zbv (l.getD i default)) :
  Spec X 139 [(16,.ghost X.P L (some (zD (l.getD i default) (16*((i:Int)+1)))))] [zyI L,.c (.d (.rp [.sl .page l])),.c (.d (.rp [DV.int i]))] (zxa L):=by
 generalize hpe:l.getD i default=p at hp
 have hget:l.getD i default=p:=hpe
 refine zGO X_ok Tryz.f139 fun hb hH=>⟨rfl,?_⟩
 show AOb ((0:Int)<=(i:Int)/\(i:Int)<(l.length:Int)) _
 refine⟨by omega,?_⟩
 show ADCall ..
 refine .mk _ _ (zph (i:Int) (by omega)) rfl ?_
 show ABr (decide ((l.getD i default).kind=2)) _ _
 rw[hget]
 refine⟨fun h=>?_,fun h=>?_⟩
 ·have hk:p.kind=2:=of_decide_eq_true h
  have ha:=hp.2 hk
  have hw:IntKind.i64.wrap ((l.getD i default).arg*16)=p.arg*16:=by rw[hget];exact zB (by omega) (by omega)
  have e:zD p (16*((i:Int)+1))=[(16*((i:Int)+1),p.arg*16)]:=by unfold zD;rw[if_pos hk]
  show AYield _ _ [.agg [.d (DV.int (16*((i:Int)+1))),.d (DV.int (IntKind.i64.wrap ((l.getD i default).arg*16)))]] _ _
  rw[hw,e]
  refine .mk 16 (16*((i:Int)+1),p.arg*16) [] rfl rfl ?_ ?_
  ·show ARet ..
   exact zdE rfl (.inl rfl)
  ·show ARet ..
   exact zdE rfl (.inr rfl)
 ·have hk:p.kind≠2:=of_decide_eq_false h
  show ABr (decide ((l.getD i default).kind=1)) _ _
  rw[hget]
  refine⟨fun h=>?_,fun h=>?_⟩
  ·have hk1:p.kind=1:=of_decide_eq_true h
   have ha:=hp.1 hk1
   obtain⟨n,hn,hn8⟩:∃n:Nat,zfg p.arg=(n:Int)/\n<=8:=by
    have:p.arg=0\/p.arg=1\/p.arg=2:=by omega
    rcases this with e|e|e<;>rw[e]
    ·exact⟨8,rfl,by omega⟩
    ·exact⟨4,rfl,by omega⟩
    ·exact⟨2,rfl,by omega⟩
   have hw8:0<=zaR p.arg/\zaR p.arg<=8:=by unfold zaR;repeat (split;omega);omega
   have e:zD p (16*((i:Int)+1))=(List.range n).map (fun j:Nat=>(16*((i:Int)+1)+(j:Int)*zaR p.arg,zaR p.arg)):=by
    unfold zD
    rw[if_neg hk,if_pos hk1,hn]
    rfl
   rw[e]
   show ACall ..
   refine za (zkI (l.getD i default).arg) rfl ?_
   show ACall ..
   refine za (zkU (l.getD i default).arg) rfl ?_
   rw[hget,hn]
   show ∃n,_
   refine⟨0,ALoop.inv (ι:={j:Nat // j<=n}) (fun j=>⟨[(0,zyI L),(5,.int (16*((i:Int)+1))),(6,.int (zaR p.arg)),(32,.int (n:Int)),(33,.int j.1)],[(16,.ghost X.P L (some (((List.range n).map (fun j:Nat=>(16*((i:Int)+1)+(j:Int)*zaR p.arg,zaR p.arg))).drop j.1)))],32⟩) (fun j=>n-j.1) ⟨0,Nat.zero_le _⟩ ?_ ?_⟩
   ·exact⟨[(16,16)],.cons _ _ _ .same (.cons _ _ _ .same (.cons _ _ _ .same (.cons _ _ _ .same (.cons _ _ _ .same .nil)))),.old 16 16 _ _ _ rfl rfl (.ghost _ _ _) .nil,rfl⟩
   ·rintro⟨j,hj⟩
    have hj:j<=n:=hj
    show ABr (decide ((j:Int)<(n:Int))) _ _
    refine⟨fun h=>?_,fun h=>?_⟩
    ·have hlt:j<n:=by simpa using h
     have hjw:0<=(j:Int)*zaR p.arg/\(j:Int)*zaR p.arg<=64:=by
      have h1:(j:Int)*zaR p.arg<=8*8:=Int.mul_le_mul (by omega) hw8.2 hw8.1 (by omega)
      exact⟨Int.mul_nonneg (by omega) hw8.1,by omega⟩
     have hw:IntKind.i64.wrap (16*((i:Int)+1)+IntKind.i64.wrap ((j:Int)*zaR p.arg))=16*((i:Int)+1)+(j:Int)*zaR p.arg:=by
      rw[zB (n:=(j:Int)*zaR p.arg) (by omega) (by omega),zB (by omega) (by omega)]
     have hd:((List.range n).map (fun j:Nat=>(16*((i:Int)+1)+(j:Int)*zaR p.arg,zaR p.arg))).drop j=(16*((i:Int)+1)+(j:Int)*zaR p.arg,zaR p.arg)::((List.range n).map (fun j:Nat=>(16*((i:Int)+1)+(j:Int)*zaR p.arg,zaR p.arg))).drop (j+1):=by
      rw[List.drop_eq_getElem_cons (by simpa using hlt)]
      simp
     show AYield _ _ [.agg [.d (DV.int (IntKind.i64.wrap (16*((i:Int)+1)+IntKind.i64.wrap ((j:Int)*zaR p.arg)))),.d (DV.int (zaR p.arg))]] _ _
     rw[hw]
     refine .mk 16 (16*((i:Int)+1)+(j:Int)*zaR p.arg,zaR p.arg) _ (congrArg (fun r=>some (AB.ghost X.P L (some r))) hd) rfl ?_ ?_
     ·refine zNO (by decide) ?_
      show ARound ..
      exact⟨⟨j+1,hlt⟩,by show n-(j+1)<n-j;omega,[(16,16)],.cons _ _ _ .same (.cons _ _ _ .same (.cons _ _ _ .same (.cons _ _ _ .same (.cons _ _ _ (.int_eq (zad (i:=j) (by unfold zE;omega))) .nil)))),.old 16 16 _ _ _ rfl rfl (.ghost _ _ _) .nil,rfl⟩
     ·refine zYE (by decide) ?_
      show ARet ..
      exact zdE rfl (.inr rfl)
    ·have hge:j=n:=by simp at h;omega
     show ARet ..
     refine zdE (o:=some (((List.range n).map (fun j:Nat=>(16*((i:Int)+1)+(j:Int)*zaR p.arg,zaR p.arg))).drop j)) rfl (.inl ?_)
     rw[hge,List.drop_eq_nil_of_le (by simp)]
  ·have hk1:p.kind≠1:=of_decide_eq_false h
   have e:zD p (16*((i:Int)+1))=[]:=by unfold zD;rw[if_neg hk,if_neg hk1]
   show ARet ..
   rw[e]
   exact zdE rfl (.inl rfl)
theorem ztt (l:List Page) (i:Int):Spec X 108 [] [.c (.d (.sl .page l)),.int i] (Ret [] (.c (.d (.fn 139 [] [.rp [.sl .page l],.rp [DV.int i]])))):=by
 refine zGO X_ok Tryz.f108 fun hb hH=>⟨rfl,?_⟩
 show ARet ..
 exact zgL (.c _ _ (.frz _ _ rfl)) ⟨rfl,rfl⟩
theorem zrv (l:List Page):Spec X 62 [] [.c (.d (.sl .page l))] (Ret [] (.c (.d (.fn 107 [] [.rp [.sl .page l]])))):=by
 refine zGO X_ok Tryz.f62 fun hb hH=>⟨rfl,?_⟩
 show ARet ..
 exact zgL (.c _ _ (.frz _ _ rfl)) ⟨rfl,rfl⟩
def zae (l:List Page) (i:Nat):List (Int×Int):=((List.range l.length).drop i).flatMap fun j=>zD (l.getD j default) (16*((j:Int)+1))
theorem zcS {l:List Page} {i:Nat} (h:i<l.length):zae l i=zD (l.getD i default) (16*((i:Int)+1))++zae l (i+1):=by
 unfold zae
 rw[List.drop_eq_getElem_cons (by simpa using h),List.flatMap_cons]
 simp
theorem zdq {l:List Page} {i:Nat} (h:l.length<=i):zae l i=[]:=by
 unfold zae
 rw[List.drop_eq_nil_of_le (by simpa using h)]
 rfl
def cellsAll (l:List Page):List (Int×Int):=if zar l then zae l 0 else []
theorem zwz {l:List Page}:∀ {r:Int},pgo r l=true->∀p∈l,zbv p:=by
 induction l with
 |nil=>intro r _ p hp;cases hp
 |cons q l ih=>
  intro r h p hp
  simp only[pgo]at h
  by_cases hk:q.kind=3
  ·simp[hk]at h
   rcases List.mem_cons.1 hp with rfl|hp
   ·exact⟨fun e=>by omega,fun e=>by omega⟩
   ·exact ih h.2 p hp
  ·simp[hk]at h
   rcases List.mem_cons.1 hp with rfl|hp
   ·have:=h.1.1
    simp[zag]at this
    exact⟨fun e=>by omega,fun e=>by omega⟩
   ·exact ih h.2 p hp
theorem zab {l:List Page} (h:zar l=true):(∀i,i<l.length->zbv (l.getD i default))/\1<=l.length/\l.length<=64:=by
 unfold zar at h
 rw[Bool.and_eq_true,decide_eq_true_eq]at h
 refine⟨fun i hi=>zwz h.1 _ ?_,h.2⟩
 rw[List.getD_eq_getElem?_getD,List.getElem?_eq_getElem hi]
 exact List.getElem_mem hi
theorem znv (L:Nat) (l:List Page):Spec X 107 [(16,.ghost X.P L (some (cellsAll l)))] [zyI L,.c (.d (.rp [.sl .page l]))] (zxa L):=by
 refine zGO X_ok Tryz.f107 fun hb hH=>⟨rfl,?_⟩
 show ACall ..
 refine za (zdk l) rfl ?_
 show ABr (!zar l) _ _
 refine⟨fun h=>?_,fun h=>?_⟩
 ·have hm:zar l=false:=by simpa using h
  show ARet ..
  exact zdE (o:=some (cellsAll l)) rfl (.inl (by unfold cellsAll;rw[hm];rfl))
 ·have hm:zar l=true:=by simpa using h
  obtain⟨hpg,hl1,hl64⟩:=zab hm
  have hca:cellsAll l=zae l 0:=by unfold cellsAll;rw[hm];rfl
  rw[hca]
  show ∃n,_
  refine⟨0,ALoop.inv (ι:={i:Nat // i<=l.length}) (fun i=>⟨[(1,.c (.d (.rp [.sl .page l]))),(2,.c (.ptr 1 0 0)),(9,.int l.length),(10,.int i.1)],[(1,.vars [.d (.lit (.func (.yield L) #[] #[]))]),(16,.ghost X.P L (some (zae l i.1)))],64⟩) (fun i=>l.length-i.1) ⟨0,Nat.zero_le _⟩ ?_ ?_⟩
  ·exact⟨[(_,1),(16,16)],.cons _ _ _ .same (.cons _ _ _ (.c _ _ (.ptr1 _ _ _ _)) (.cons _ _ _ .same (.cons _ _ _ .same .nil))),.old 1 _ _ _ _ rfl rfl (.vars _ _ (.cons _ _ _ _ (.d _) .nil)) (.old 16 16 _ _ _ rfl rfl (.ghost _ _ _) .nil),rfl⟩
  ·rintro⟨i,hi⟩
   have hi:i<=l.length:=hi
   show ABr (decide ((i:Int)<(l.length:Int))) _ _
   refine⟨fun h=>?_,fun h=>?_⟩
   ·have hlt:i<l.length:=by simpa using h
    have hstep:=zcS hlt
    show ACall ..
    refine za (ztt l (i:Int)) rfl ?_
    rw[hstep]
    show ARange _ _ _ _ _ _ _ _
    refine .mk ⟨[(1,.c (.d (.rp [.sl .page l]))),(2,.c (.ptr 1 0 0)),(9,.int l.length),(10,.int (i:Int)),(15,.c (.d (.fn 139 [] [.rp [.sl .page l],.rp [DV.int i]])))],[(1,.vars [.d (.lit (.func (.yield L) #[] #[]))]),(16,.ghost X.P L (some (zD (l.getD i default) (16*((i:Int)+1))++zae l (i+1))))],96⟩ ?_
     139 [.rp [.sl .page l],.rp [DV.int i]] rfl (zD (l.getD i default) (16*((i:Int)+1))) 16 rfl [(1,17),(16,16)] [(2,.c (.ptr 17 0 0))]
     (fun _=>True) (fun r=>[(17,.vars [.d (.lit (.func (.yield L) #[] #[]))]),(16,.ghost X.P L (some (r++zae l (i+1))))]) (fun e H=>e = .ret/\H=[(17,.vars [.d (.lit (.func (.yield L) #[] #[]))]),(16,.ghost X.P L none)])
     trivial (.cons _ _ _ (.c _ _ (.ptr _ _ _ _ rfl)) .nil) (.old 17 1 _ _ _ rfl rfl (.vars _ _ (.cons _ _ _ _ (.d _) .nil)) (.old 16 16 _ _ _ rfl rfl (.ghost _ _ _) .nil)) rfl (fun L'=>zpy L' l i hlt hl64 (hpg i hlt)) ?_ (fun _=>⟨rfl,?_⟩) ?_
    ·exact⟨[(1,1),(16,16)],.cons _ _ _ .same (.cons _ _ _ (.c _ _ (.ptr1 _ _ _ _)) (.cons _ _ _ .same (.cons _ _ _ .same (.cons _ _ _ .same .nil)))),.old 1 1 _ _ _ rfl rfl (.vars _ _ (.cons _ _ _ _ (.d _) .nil)) (.old 16 16 _ _ _ rfl rfl (.ghost _ _ _) .nil),rfl⟩
    ·intro pre x r hxs _
     show AYield _ _ _ _ _
     refine .mk 16 x (r++zae l (i+1)) rfl rfl ?_ ?_
     ·refine zNO (by decide) ?_
      show AEnd _ _/\True
      exact⟨⟨[(17,17),(16,16)],.old 17 17 _ _ _ rfl rfl (.vars _ _ (.cons _ _ _ _ (.d _) .nil)) (.old 16 16 _ _ _ rfl rfl (.ghost _ _ _) .nil),rfl⟩,trivial⟩
     ·refine zYE (by decide) ?_
      show ∃H,_
      exact⟨_,⟨[(17,17),(16,16)],.old 17 17 _ _ _ rfl rfl (.vars _ _ (.cons _ _ _ _ (.d _) .nil)) (.old 16 16 _ _ _ rfl rfl (.ghost _ _ _) .nil),rfl⟩,rfl,rfl⟩
    ·show ARound ..
     exact⟨⟨i+1,hlt⟩,by show l.length-(i+1)<l.length-i;omega,[(1,1),(16,16)],.cons _ _ _ .same (.cons _ _ _ (.c _ _ (.ptr1 _ _ _ _)) (.cons _ _ _ .same (.cons _ _ _ (.int_eq (zad (i:=i) (by unfold zE;omega))) .nil))),.old 1 1 _ _ _ rfl rfl (.vars _ _ (.cons _ _ _ _ (.d _) .nil)) (.old 16 16 _ _ _ rfl rfl (.ghost _ _ _) .nil),rfl⟩
    ·rintro e H ⟨rfl,rfl⟩
     refine⟨rfl,?_⟩
     show ARet ..
     exact zdE rfl (.inr rfl)
   ·have hge:i=l.length:=by simp at h;omega
    show ARet ..
    exact zdE (o:=some (zae l i)) rfl (.inl (by rw[zdq (by omega)]))
theorem zha (p:Page) (a:Int):(zD p a).length<=8:=by
 unfold zD
 split
 ·simp
 ·split
  ·simp only[List.length_map,List.length_range]
   unfold zfg
   repeat (split;omega)
   omega
  ·simp
theorem zm1 (l:List Page):∀(k i:Nat),l.length-i=k->(zae l i).length<=8*k:=by
 intro k
 induction k with
 |zero=>intro i hi;rw[zdq (by omega)];simp
 |succ k ih=>
  intro i hi
  rw[zcS (by omega),List.length_append]
  have:=zha (l.getD i default) (16*((i:Int)+1))
  have:=ih (i+1) (by omega)
  omega
theorem zge (l:List Page):(cellsAll l).length<=512:=by
 unfold cellsAll
 by_cases h:zar l=true
 ·rw[if_pos h]
  have:=zm1 l (l.length) 0 (by omega)
  have:=(zab h).2.2
  omega
 ·rw[if_neg h];simp
def cellStarts (l:List Page):List Int:=(cellsAll l).map (·.1)
theorem ziR {α:Type} {xs pre r:List α} (h:xs=pre++r):xs.take (xs.length-r.length)=pre:=by subst h;simp
theorem zjL (l:List Page):Spec X 28 [] [.c (.d (.sl .page l))] (Ret [(0,.data .int (cellStarts l))] (.c (.own 0))):=by
 refine zGO X_ok Tryz.f28 fun hb hH=>⟨rfl,?_⟩
 show ACall ..
 refine za (zrv l) rfl ?_
 have hlen:=zge l
 obtain⟨St,hSt⟩:∃St:List (Int×Int)->zg,St=fun r=>[(16,.vars [.own 1]),(1,.data .int (((cellsAll l).take ((cellsAll l).length-r.length)).map (·.1)))]:=⟨_,rfl⟩
 have hS0:St (cellsAll l)=[(16,.vars [.own 1]),(1,.data .int ([]:List Int))]:=by rw[hSt];simp;rfl
 have hS1:St []=[(16,.vars [.own 1]),(1,.data .int (cellStarts l))]:=by rw[hSt];unfold cellStarts;simp;rfl
 show ARange _ _ _ _ _ _ _ _
 refine .mk ⟨[(3,.c (.ptr 1 0 0)),(6,.c (.d (.fn 107 [] [.rp [.sl .page l]])))],[(1,.vars [.d DV.nilsl])],160⟩ ?_ 107 [.rp [.sl .page l]] rfl (cellsAll l) 7 rfl [(1,16)] [(3,.c (.ptr 16 0 0))]
  (fun _=>True) St (fun _ _=>False) trivial (.cons _ _ _ (.c _ _ (.ptr _ _ _ _ rfl)) .nil) ?_ ?_ (fun L=>znv L l) ?_ (fun _=>?_) (fun e H h=>h.elim)
 ·exact⟨[(_,1)],.cons _ _ _ (.c _ _ (.ptr1 _ _ _ _)) (.cons _ _ _ .same .nil),.old 1 _ _ _ _ rfl rfl (.vars _ _ (.cons _ _ _ _ (.d _) .nil)) .nil,rfl⟩
 ·rw[hS0]
  exact .old 16 1 _ _ _ rfl rfl (.vars _ _ (.cons _ _ _ _ (.nilown 1 .int rfl rfl) .nil)) (.new 1 .int _ rfl .nil)
 ·rw[hS0];rfl
 ·intro pre x r hxs _
  have h1:(cellsAll l).take ((cellsAll l).length-(x::r).length)=pre:=ziR hxs
  have h2:(cellsAll l).take ((cellsAll l).length-r.length)=pre++[x]:=ziR (by rw[hxs];simp)
  have hpre:pre.length<=512:=by rw[hxs]at hlen;simp at hlen;omega
  rw[hSt]
  simp only[h1,h2]
  show AOb ((pre.map (·.1)).length+1<=zk) _
  refine⟨by rw[List.length_map];unfold zk;omega,?_⟩
  show AEnd _ _/\True
  refine⟨⟨[(_,1),(16,16)],.old 16 16 _ _ _ rfl rfl (.vars _ _ (.cons _ _ _ _ (.own1 _ _) .nil)) (.old 1 _ _ _ _ rfl rfl (.data_eq ?_) .nil),rfl⟩,trivial⟩
  exact(by simp:(pre.map (fun y:Int×Int=>y.1):List Int)++[x.1]=(pre++[x]).map (fun y=>y.1))
 ·rw[hS1]
  refine⟨rfl,?_⟩
  show ARet ..
  exact⟨[(_,0)],[(0,.data .int (cellStarts l))],[.c (.own 0)],.cons _ _ _ _ (.c _ _ (.own1 _ _)) .nil,.old 0 _ _ _ _ rfl rfl (.data_eq rfl) .nil,rfl,rfl,rfl⟩
def zv2 (o:Option (Int×Int)):TV:=match o with
 |some x=>.tup [.agg [.d (DV.int x.1),.d (DV.int x.2)],.bo true]
 |none=>.tup [.agg [.d (DV.int 0),.d (DV.int 0)],.bo false]
theorem zrq (l:List Page) (g:Nat) (a:Int) (P:Int×Int->Bool) (hP:∀x:Int×Int,Spec X g [] [.int a,.agg [.d (DV.int x.1),.d (DV.int x.2)]] (Ret [] (.bo (P x)))) :
  Spec X 79 [] [.c (.d (.sl .page l)),.c (.d (.fn g [DV.int a] []))] (Ret [] (zv2 ((cellsAll l).find? P))):=by
 refine zGO X_ok Tryz.f79 fun hb hH=>⟨rfl,?_⟩
 show ACall ..
 refine za (zrv l) rfl ?_
 show ARange _ _ _ _ _ _ _ _
 refine .mk ⟨[(3,.c (.ptr 1 0 0)),(4,.c (.ptr 2 0 0)),(5,.c (.ptr 3 0 0)),(8,.c (.d (.fn 107 [] [.rp [.sl .page l]])))],[(1,.vars [.d (.fn g [DV.int a] [])]),(2,.vars [.d (DV.int 0),.d (DV.int 0)]),(3,.vars [.d (DV.bo false)])],256⟩ ?_ 107 [.rp [.sl .page l]] rfl (cellsAll l) 9 rfl
  [(1,16),(2,17),(3,18)] [(3,.c (.ptr 16 0 0)),(4,.c (.ptr 17 0 0)),(5,.c (.ptr 18 0 0))]
  (fun r=>∃pre,cellsAll l=pre++r/\∀y∈pre,P y=false) (fun _=>[(16,.vars [.d (.fn g [DV.int a] [])]),(17,.vars [.d (DV.int 0),.d (DV.int 0)]),(18,.vars [.d (DV.bo false)])])
  (fun e H=>e = .ret/\∃x,(cellsAll l).find? P=some x/\H=[(16,.vars [.d (.fn g [DV.int a] [])]),(17,.vars [.d (DV.int x.1),.d (DV.int x.2)]),(18,.vars [.d (DV.bo true)])])
  ⟨[],rfl,fun y hy=>by cases hy⟩ (.cons _ _ _ (.c _ _ (.ptr _ _ _ _ rfl)) (.cons _ _ _ (.c _ _ (.ptr _ _ _ _ rfl)) (.cons _ _ _ (.c _ _ (.ptr _ _ _ _ rfl)) .nil)))
  (.old 16 1 _ _ _ rfl rfl (.vars _ _ (.cons _ _ _ _ (.d _) .nil)) (.old 17 2 _ _ _ rfl rfl (.vars _ _ (.cons _ _ _ _ (.d _) (.cons _ _ _ _ (.d _) .nil))) (.old 18 3 _ _ _ rfl rfl (.vars _ _ (.cons _ _ _ _ (.d _) .nil)) .nil))) rfl (fun L=>znv L l) ?_ (fun hI=>⟨rfl,?_⟩) ?_
 ·exact⟨[(32,1),(64,2),(96,3)],.cons _ _ _ (.c _ _ (.ptr1 _ _ _ _)) (.cons _ _ _ (.c _ _ (.ptr _ _ _ _ rfl)) (.cons _ _ _ (.c _ _ (.ptr _ _ _ _ rfl)) (.cons _ _ _ .same .nil))),.old 1 _ _ _ _ rfl rfl (.vars _ _ (.cons _ _ _ _ (.d _) .nil)) (.old 2 _ _ _ _ rfl rfl (.vars _ _ (.cons _ _ _ _ (.d _) (.cons _ _ _ _ (.d _) .nil))) (.old 3 _ _ _ _ rfl rfl (.vars _ _ (.cons _ _ _ _ (.d _) .nil)) .nil)),rfl⟩
 ·intro pre x r hxs hI
  obtain⟨pre',he,hf⟩:=hI
  have hpp:pre' = pre:=List.append_cancel_right (he.symm.trans hxs)
  subst hpp
  show ACall ..
  refine za (hP x) rfl ?_
  show ABr (P x) _ _
  refine⟨fun h=>?_,fun h=>?_⟩
  ·show ∃H,_
   refine⟨_,⟨[(16,16),(17,17),(18,18)],.old 16 16 _ _ _ rfl rfl (.vars _ _ (.cons _ _ _ _ (.d _) .nil)) (.old 17 17 _ _ _ rfl rfl (.vars _ _ (.cons _ _ _ _ (.d _) (.cons _ _ _ _ (.d _) .nil))) (.old 18 18 _ _ _ rfl rfl (.vars _ _ (.cons _ _ _ _ (.d _) .nil)) .nil)),rfl⟩,rfl,x,?_,rfl⟩
   rw[he,List.find?_append,List.find?_eq_none.2 (fun y hy=>by simp[hf y hy])]
   simp[List.find?,h]
  ·show AEnd _ _/\_
   refine⟨⟨[(16,16),(17,17),(18,18)],.old 16 16 _ _ _ rfl rfl (.vars _ _ (.cons _ _ _ _ (.d _) .nil)) (.old 17 17 _ _ _ rfl rfl (.vars _ _ (.cons _ _ _ _ (.d _) (.cons _ _ _ _ (.d _) .nil))) (.old 18 18 _ _ _ rfl rfl (.vars _ _ (.cons _ _ _ _ (.d _) .nil)) .nil)),rfl⟩,pre'++[x],by rw[he];simp,fun y hy=>?_⟩
   rcases List.mem_append.1 hy with hy|hy
   ·exact hf y hy
   ·rw[List.mem_singleton.1 hy];exact h
 ·obtain⟨pre,he,hf⟩:=hI
  rw[List.append_nil]at he
  have hn:(cellsAll l).find? P=none:=List.find?_eq_none.2 (fun y hy=>by simp[hf y (he▸hy)])
  rw[hn]
  show ARet ..
  exact zi rfl ⟨rfl,rfl⟩
 ·rintro e H ⟨rfl,x,hx,rfl⟩
  refine⟨rfl,?_⟩
  rw[hx]
  show ARet ..
  exact zi rfl ⟨rfl,rfl⟩
theorem zhL (a:Int) (x:Int×Int):Spec X 80 [] [.int a,.agg [.d (DV.int x.1),.d (DV.int x.2)]] (Ret [] (.bo (decide (a=x.1)))):=by
 refine zGO X_ok Tryz.f80 fun hb hH=>⟨rfl,?_⟩
 show ARet ..
 exact zt rfl ⟨rfl,rfl⟩
def zhk (l:List Page) (a:Int):Option (Int×Int):=(cellsAll l).find? fun x=>decide (a=x.1)
def ze (l:List Page) (a:Int):Int:=match zhk l a with|some x=>x.2|none=>0
theorem zk4 {l:List Page} {g:Nat} {a:Int} {P:Int×Int->Bool} (hP:∀x:Int×Int,Spec X g [] [.int a,.agg [.d (DV.int x.1),.d (DV.int x.2)]] (Ret [] (.bo (P x)))) {o:Option (Int×Int)} (h:(cellsAll l).find? P=o) :
  Spec X 79 [] [.c (.d (.sl .page l)),.c (.d (.fn g [DV.int a] []))] (Ret [] (zv2 o)):=by
 subst h
 exact zrq l g a P hP
theorem zfl (l:List Page) (a:Int):Spec X 38 [] [.c (.d (.sl .page l)),.int a] (Ret [] (.int (ze l a))):=by
 refine zGO X_ok Tryz.f38 fun hb hH=>⟨rfl,?_⟩
 unfold ze zhk
 cases h:(cellsAll l).find? fun x=>decide (a=x.1) with
 |none=>
  show ACall ..
  refine za (zk4 (zhL a) h) rfl ?_
  show ARet ..
  exact zi rfl ⟨rfl,rfl⟩
 |some x=>
  show ACall ..
  refine za (zk4 (zhL a) h) rfl ?_
  show ARet ..
  exact zi rfl ⟨rfl,rfl⟩
end Go.Abs
namespace Go.Abs
theorem zhV {c:Int} (h:0<=c/\c<=2):(zaR c=2/\zfg c=8)\/(zaR c=4/\zfg c=4)\/(zaR c=8/\zfg c=2):=by
 unfold zaR zfg
 by_cases h0:c=0
 ·simp[h0]
 ·by_cases h1:c=1
  ·simp[h1]
  ·have h2:c=2:=by omega
   simp[h2]
theorem zgC {p:Page} {a:Int} {x:Int×Int} (hp:zbv p) (h:x∈zD p a) :
  (p.kind=1/\x.2=zaR p.arg/\∃k:Nat,(k:Int)<zfg p.arg/\x.1=a+k*zaR p.arg)\/(p.kind=2/\x=(a,p.arg*16)):=by
 unfold zD at h
 split at h
 ·rename_i hk
  right
  exact⟨hk,List.mem_singleton.1 h⟩
 ·split at h
  ·rename_i hk
   left
   obtain⟨k,hk',rfl⟩:=List.mem_map.1 h
   rw[List.mem_range]at hk'
   exact⟨hk,rfl,k,by omega,rfl⟩
  ·cases h
theorem zhI {l:List Page} {i:Nat} {x:Int×Int} (h:x∈zae l i):∃j,i<=j/\j<l.length/\x∈zD (l.getD j default) (16*((j:Int)+1)):=by
 unfold zae at h
 obtain⟨j,hj,hx⟩:=List.mem_flatMap.1 h
 obtain⟨k,hk,e⟩:=List.mem_iff_getElem.1 hj
 simp at e hk
 subst e
 exact⟨i+k,by omega,by omega,hx⟩
structure CellOf (l:List Page) (x:Int×Int) (i:Nat):Prop where
 lt:i<l.length
 mem:x∈zD (l.getD i default) (16*((i:Int)+1))
 lo:16*((i:Int)+1)<=x.1
 hi:x.1<16*((i:Int)+2)
 pos:0<x.2
 div:x.1 / 16-1=i
 kind:((l.getD i default).kind=1/\0<=(l.getD i default).arg/\(l.getD i default).arg<=2/\x.1+x.2<=16*((i:Int)+2)/\x.2=zaR (l.getD i default).arg)\/((l.getD i default).kind=2/\1<=(l.getD i default).arg/\(l.getD i default).arg<=4/\x.1=16*((i:Int)+1)/\x.2=(l.getD i default).arg*16)
theorem zdd {l:List Page} {x:Int×Int} {i:Nat} (hi:i<l.length) (hp:zbv (l.getD i default)) (hx:x∈zD (l.getD i default) (16*((i:Int)+1))):CellOf l x i:=by
 have key:16*((i:Int)+1)<=x.1/\x.1<16*((i:Int)+2)/\0<x.2/\(((l.getD i default).kind=1/\0<=(l.getD i default).arg/\(l.getD i default).arg<=2/\x.1+x.2<=16*((i:Int)+2)/\x.2=zaR (l.getD i default).arg)\/((l.getD i default).kind=2/\1<=(l.getD i default).arg/\(l.getD i default).arg<=4/\x.1=16*((i:Int)+1)/\x.2=(l.getD i default).arg*16)):=by
  rcases zgC hp hx with⟨hk,h2,k,hkn,h1⟩|⟨hk,rfl⟩
  ·have ha:=hp.1 hk
   rcases zhV ha with⟨hw,hn⟩|⟨hw,hn⟩|⟨hw,hn⟩<;>rw[hw]at h2 h1<;>rw[hn]at hkn <;>
    exact⟨by omega,by omega,by omega,.inl ⟨hk,ha.1,ha.2,by omega,by rw[hw];exact h2⟩⟩
  ·have ha:=hp.2 hk
   exact⟨Int.le_refl _,by show 16*((i:Int)+1)<_;omega,by show 0<(l.getD i default).arg*16;omega,.inr ⟨hk,ha.1,ha.2,rfl,rfl⟩⟩
 obtain⟨h1,h2,h3,h4⟩:=key
 exact⟨hi,hx,h1,h2,h3,by omega,h4⟩
theorem zap {l:List Page} {x:Int×Int} (h:x∈cellsAll l):zar l=true/\∃i,CellOf l x i:=by
 unfold cellsAll at h
 split at h
 ·rename_i hm
  obtain⟨i,_,hi,hx⟩:=zhI h
  exact⟨hm,i,zdd hi ((zab hm).1 i hi) hx⟩
 ·cases h
theorem zl8 {p:Page} {a:Int} (hp:zbv p):(zD p a).Pairwise (fun x y=>x.1+x.2<=y.1):=by
 unfold zD
 split
 ·exact List.pairwise_singleton _ _
 ·split
  ·rename_i hk
   rw[List.pairwise_map]
   refine List.Pairwise.imp ?_ (List.pairwise_lt_range)
   intro i j hij
   have ha:=hp.1 hk
   rcases zhV ha with⟨hw,hn⟩|⟨hw,hn⟩|⟨hw,hn⟩<;>rw[hw]<;>simp<;>omega
  ·exact List.Pairwise.nil
theorem zfn {l:List Page} (hp:∀i,i<l.length->zbv (l.getD i default)):∀(n i:Nat),l.length-i=n->(zae l i).Pairwise (fun x y=>x.1<y.1)
 |0,i,h=>by rw[zdq (by omega)];exact List.Pairwise.nil
 |n+1,i,h=>by
  have hi:i<l.length:=by omega
  rw[zcS hi,List.pairwise_append]
  refine⟨?_,zfn hp n (i+1) (by omega),?_⟩
  ·refine List.Pairwise.imp_of_mem ?_ (zl8 (hp i hi))
   intro x y hx _ h
   have:=(zdd hi (hp i hi) hx).pos
   omega
  ·intro x hx y hy
   obtain⟨j,hj1,hj2,hy'⟩:=zhI hy
   have h1:=(zdd hi (hp i hi) hx).hi
   have h2:=(zdd hj2 (hp j hj2) hy').lo
   omega
theorem zgm (l:List Page):(cellsAll l).Pairwise (fun x y=>x.1<y.1):=by
 unfold cellsAll
 split
 ·rename_i hm
  exact zfn (zab hm).1 _ 0 rfl
 ·exact List.Pairwise.nil
theorem zdv (l:List Page):(cellStarts l).Pairwise (· < ·):=by
 unfold cellStarts
 rw[List.pairwise_map]
 exact zgm l
theorem zpO {l:List Page} {x:Int×Int} (h:x∈cellsAll l):zhk l x.1=some x:=by
 have hs:=zgm l
 unfold zhk
 generalize cellsAll l=cs at h hs
 induction cs with
 |nil=>cases h
 |cons y r ih=>
  rw[List.pairwise_cons]at hs
  rcases List.mem_cons.1 h with rfl|h
  ·simp[List.find?]
  ·have:=hs.1 x h
   have hne:¬x.1=y.1:=by omega
   simp[List.find?,hne]
   exact ih h hs.2
theorem zbA {l:List Page} {x:Int×Int} (h:x∈cellsAll l):ze l x.1=x.2:=by unfold ze;rw[zpO h]
theorem zz {l:List Page} {a:Int} (h:ze l a≠0):(a,ze l a)∈cellsAll l:=by
 unfold ze at h ⊢
 cases hc:zhk l a with
 |none=>rw[hc]at h;exact absurd rfl h
 |some x=>
  unfold zhk at hc
  have h1:=List.mem_of_find?_eq_some hc
  have h2:a=x.1:=by simpa using List.find?_some hc
  rw[h2]
  exact h1
theorem zw {l:List Page} {a:Int}:a∈cellStarts l↔ze l a≠0:=by
 constructor
 ·intro h
  obtain⟨x,hx,rfl⟩:=List.mem_map.1 h
  rw[zbA hx]
  obtain⟨_,i,hi⟩:=zap hx
  have:=hi.pos
  omega
 ·intro h
  exact List.mem_map.2 ⟨_,zz h,rfl⟩
theorem zcn (l:List Page) (a:Int):0<=ze l a:=by
 by_cases h:ze l a=0
 ·omega
 ·obtain⟨_,i,hi⟩:=zap (zz h)
  have:=hi.pos
  simp at this
  omega
end Go.Abs
