/- The context of this seat; small steps of walks; more of the program's data. -/
import Derived.Test.YtlankjlnnimdoaaGreatDoorAbsForce1
import Derived.Test.YtlankjlnnimdoaaGreatDoorAbsTypes
import Derived.KernelRfl
set_option linter.all false
namespace Go.Abs
open Go.Proofs Go.Proofs.YtlankjlnnimdoaaGreatDoor
def gls:List (Nat×List DV):=[(0,[DV.int 2,DV.int 4,DV.int 8])]
noncomputable def X:Ctx:=⟨Tryz.prog,zxj,gls,false,false⟩
theorem zzy:X.tt.all (fun p=>zja X.P p&&zyD X.P p)=true:=by kernel_rfl
theorem zzw:X.P.follows .mixedOrders=true:=by kernel_rfl
theorem X_ok:XOk X:=zzh zzw zzy
noncomputable def Xf:Ctx:=⟨Tryz.prog,zxj,gls,true,false⟩
theorem zmN:XOk Xf:=⟨X_ok.ty,X_ok.mix,X_ok.kind⟩
theorem Spec.fz {f:Nat} {H:zg} {args:List TV} {Q:zg->TV->Prop} (h:Spec Xf f H args Q):Spec X f H args Q:=h
noncomputable def Xb:Ctx:=⟨Tryz.prog,zxj,gls,false,true⟩
theorem zzH:XOk Xb:=⟨X_ok.ty,X_ok.mix,X_ok.kind⟩
theorem Spec.fb {f:Nat} {H:zg} {args:List TV} {Q:zg->TV->Prop} (h:Spec Xb f H args Q):Spec X f H args Q:=h
theorem Spec.ub {f:Nat} {H:zg} {args:List TV} {Q:zg->TV->Prop} (h:Spec X f H args Q):Spec Xb f H args Q:=h
theorem Spec.uz {f:Nat} {H:zg} {args:List TV} {Q:zg->TV->Prop} (h:Spec X f H args Q):Spec Xf f H args Q:=h
end Go.Abs
namespace Go.Abs
def dT:TV->Bool
 |.c x=>isD x
 |.agg xs=>xs.all isD
 |.tup []=>true
 |_=>false
theorem zb {ρ:List (Nat×Nat)} {h h' : zg}:∀ {xs:List CV},xs.all isD=true->LeL ρ h h' xs xs
 |[],_=>.nil
 |x::r,hx=>by
  simp only[List.all_cons,Bool.and_eq_true]at hx
  obtain⟨d,rfl⟩:=zmH hx.1
  exact .cons _ _ _ _ (.d d) (zb hx.2)
theorem zww {ρ:List (Nat×Nat)} {h h' : zg} {x:TV} (hx:dT x=true):LeT ρ h h' x x:=by
 unfold dT at hx
 split at hx
 ·obtain⟨d,rfl⟩:=zmH hx
  exact .c _ _ (.d d)
 ·exact .agg _ _ (zb hx)
 ·exact .unit
 ·cases hx
theorem zql {ρ:List (Nat×Nat)} {h h' : zg}:∀ {xs:List TV},xs.all dT=true->LeV ρ h h' xs xs
 |[],_=>.nil
 |x::r,hx=>by
  simp only[List.all_cons,Bool.and_eq_true]at hx
  exact .cons _ _ _ _ (zww hx.1) (zql hx.2)
theorem zi {Q:zg->TV->Prop} {s:AS} {vs:List TV} (h:vs.all dT=true) (hq:Q [] (one vs)):ARet Q s vs:=
 ⟨[],[],vs,zql h,.nil,rfl,hq⟩
theorem zaZ {Q:zg->TV->Prop} {s:AS} {x y:Int} (e:x=y) (hq:Q [] (.int y)):ARet Q s [.int x]:=by subst e;exact zi rfl hq
theorem zt {Q:zg->TV->Prop} {s:AS} {x y:Bool} (e:x=y) (hq:Q [] (.bo y)):ARet Q s [.bo x]:=by subst e;exact zi rfl hq
theorem za {X:Ctx} {f:Nat} {args:List TV} {h:zg} {base:Nat} {k:TV->zg->Prop} {r:TV} (hT:Spec X f [] (args.map (zdF h)) (Ret [] r)) (hl:(args.all zib || zcH 8 r)=true) (hk:k (shT base 8 r) []):ACall X f args h base k:=
 .mk _ hT fun H r' ⟨e1,e2⟩ _ _=>by
  subst e1 e2
  refine⟨?_,hk⟩
  rcases Bool.or_eq_true _ _▸hl with h|h
  ·exact .inl h
  ·exact .inr ⟨h,rfl⟩
theorem LeT.int_eq {ρ:List (Nat×Nat)} {h h' : zg} {x y:Int} (e:x=y):LeT ρ h h' (.int x) (.int y):=by subst e;exact .c _ _ (.d _)
theorem LeT.bo_eq {ρ:List (Nat×Nat)} {h h' : zg} {x y:Bool} (e:x=y):LeT ρ h h' (.bo x) (.bo y):=by subst e;exact .c _ _ (.d _)
theorem LeC.int_eq {ρ:List (Nat×Nat)} {h h' : zg} {x y:Int} (e:x=y):LeC ρ h h' (.d (DV.int x)) (.d (DV.int y)):=by subst e;exact .d _
theorem LeT.sl_eq {ρ:List (Nat×Nat)} {h h' : zg} {k:EK} {x y:List k.T} (e:x=y):LeT ρ h h' (.c (.d (.sl k x))) (.c (.d (.sl k y))):=by subst e;exact .c _ _ (.d _)
theorem LeT.same {ρ:List (Nat×Nat)} {h h' : zg} {x:DV}:LeT ρ h h' (.c (.d x)) (.c (.d x)):=.c _ _ (.d _)
def unr (G:AS->Prop) (Q:AExit->AS->Prop):AExit->AS->Prop
 |.normal,s=>G s
 |.exit id,s=>Q (.exit id) s
 |.ret,s=>Q .ret s
 |.goto l,s=>Q (.goto l) s
theorem ALoop.next {F:AS->(AExit->AS->Prop)->Prop} {n:Nat} {s:AS} {Q:AExit->AS->Prop} (h:F s (unr (fun s'=>ALoop F n s' Q) Q)):ALoop F (n+1) s Q:=
 .unroll _ h (fun _ h=>h) (fun _ _ h=>h) (fun _ h=>h) (fun _ _ h=>h)
theorem LeT.frz {ρ:List (Nat×Nat)} {h h' : zg} {x:CV} {k:EK} {l m:List k.T} (h1:zbF (fun b=>(za3 ρ b).isNone) h 8 x=some (.sl k l)) (e:l=m):LeT ρ h h' (.c x) (.c (.d (.sl k m))):=by subst e;exact .c _ _ (.frz _ _ h1)
theorem LeT.nilsl {ρ:List (Nat×Nat)} {h h' : zg} {k:EK} {m:List k.T} (e:m=[]):LeT ρ h h' (.c (.d (.lit (.slice none 0 0)))) (.c (.d (.sl k m))):=by subst e;exact .c _ _ (.nilsl k)
theorem LeC.own1 {ρ:List (Nat×Nat)} {h h' : zg} (b c:Nat):LeC ((b,c)::ρ) h h' (.own b) (.own c):=.own b c (by simp[za3])
theorem LeC.ptr1 {ρ:List (Nat×Nat)} {h h' : zg} (b c i o:Nat):LeC ((b,c)::ρ) h h' (.ptr b i o) (.ptr c i o):=.ptr b c i o (by simp[za3])
theorem LeB.data_eq {ρ:List (Nat×Nat)} {h h' : zg} {k:EK} {l m:List k.T} (e:l=m):LeB ρ h h' (.data k l) (.data k m):=by subst e;exact .data k l
theorem zgL {Q:zg->TV->Prop} {s:AS} {v w:TV} (h:LeT [] s.h [] v w) (hq:Q [] w):ARet Q s [v]:=
 ⟨[],[],[w],.cons _ _ _ _ h .nil,.nil,rfl,hq⟩
theorem zB {n:Int} (h1:-9223372036854775808<=n) (h2:n<9223372036854775808):IntKind.i64.wrap n=n:=by
 unfold IntKind.wrap
 simp[IntKind.bits,IntKind.signed]
 omega
structure Col where
 phase:Int
 epoch:Int
 major:Bool
 work:List Int
 over:Bool
 at_:Int
 field_:Int
 seek:Int
 card:Int
 met:Bool
 deriving DecidableEq,Inhabited
def Col.enc (c:Col):List DV:=[DV.int c.phase,DV.int c.epoch,DV.bo c.major,.sl .int c.work,DV.bo c.over,DV.int c.at_,DV.int c.field_,DV.int c.seek,DV.int c.card,DV.bo c.met]
structure Hp where
 w:List Int
 pages:List Page
 free:Lists
 cards:List Bool
 deriving DecidableEq,Inhabited
def Hp.enc (h:Hp):List DV:=[.sl .int h.w,.sl .page h.pages,.sl .int h.free.l0,.sl .int h.free.l1,.sl .int h.free.l2,.sl .bool h.cards]
structure Hd where
 used:Bool
 old:Bool
 done:Bool
 n:Int
 born:Int
 mark:Int
 deriving DecidableEq,Inhabited
def Hd.enc (h:Hd):List DV:=[DV.bo h.used,DV.bo h.old,DV.bo h.done,DV.int h.n,DV.int h.born,DV.int h.mark]
abbrev Hd.tv (h:Hd):TV:=.dagg h.enc
abbrev Thread.tv (t:Thread):TV:=.dagg (EK.enc .thread t)
abbrev Col.tv (c:Col):TV:=.dagg c.enc
abbrev Hp.tv (h:Hp):TV:=.dagg h.enc
abbrev Lists.tv (l:Lists):TV:=.dagg (EK.enc .lists l)
end Go.Abs
